/- Clone and DeleteFunc at values as calls on the abstract heap; pack; pack; pack; pack; pack; pack; pack; tallyref: plainly, truth, width; tallyref: stand; tallyref: bits; tallyref: the place of a word, by sort; tallyref; Plain facts for tallyref; tallyref; tallyref; tallyref; tallyref; tallyref. Own work; no condition. -/
import Derived.Test.YtcajncmjlmpkgaaPc49
import Derived.Test.YtcajncmjlmpkgaaPcBri
import Derived.Test.YtcajncmjlmpkgaaPcAbs22
import Derived.Test.YtcajncmjlmpkgaaPc42
import Derived.Test.YtcajncmjlmpkgaaPcAbsP
import Derived.Test.YtcajncmjlmpkgaaPc43
namespace Go.Proofs.Ytcajncmjlmpkgaa
open Go Go.RowKit Go.Deep Go.Sort Go.Shelf
set_option linter.unusedVariables false
set_option linter.unusedSimpArgs false
set_option maxRecDepth 100000
theorem flatC (l : List Val) : (l.map Val.cells).flatten.length = l.length * 3 := by
 induction l with
 | nil => rfl
 | cons x r ih => simp only [List.map_cons, List.flatten_cons, List.length_append, ih, List.length_cons]; rw [show x.cells.length = 3 from rfl]; omega
theorem flatC_at : ∀ (l : List Val) (k : Nat) (c : PV) (u : Value), (l.map Val.cells).flatten[k]? = some c → (flatV l)[k]? = some u → ∀ m, RP m c u ∧ ∀ v, RP m c v → v = u
 | [], k, c, u, h, _, _ => by simp at h
 | x :: r, k, c, u, h, h2, m => by
   simp only [List.map_cons, List.flatten_cons] at h
   have h2' : (encV x ++ flatV r)[k]? = some u := h2
   rw [List.getElem?_append] at h h2'
   have e1 : x.cells.length = 3 := rfl
   have e2 : (encV x).length = 3 := rfl
   rw [e1] at h
   rw [e2] at h2'
   by_cases hk : k < 3
   · rw [if_pos hk] at h h2'
     match k, hk with
     | 0, _ => simp [Val.cells] at h; simp [encV] at h2'; subst h h2'; exact ⟨.int _ _, fun v hv => by cases hv; rfl⟩
     | 1, _ => simp [Val.cells] at h; simp [encV] at h2'; subst h h2'; exact ⟨.int _ _, fun v hv => by cases hv; rfl⟩
     | 2, _ => simp [Val.cells] at h; simp [encV] at h2'; subst h h2'; exact ⟨.str _, fun v hv => by cases hv; rfl⟩
   · rw [if_neg hk] at h h2'
     exact flatC_at r (k - 3) c u h h2' m
theorem putRowK_setRow {w : World} {b : Nat} {old : Array Value} {t : TypeId} {fr : Nat × Nat} (hh : w.heap[b]? = some (.cells old t fr)) (d : Array Val) : putRowK encV 3 w b 0 d = w.setRow b (putCells id 0 (flatK encV 3 d) old) := by
 unfold putRowK putRow
 rw [mapBlock_congr w b _ (fun _ => putCells id 0 (flatK encV 3 d) old) fun c e fr h => by rw [hh] at h; cases h; rfl]
 unfold mapBlock World.setRow
 congr 2
theorem WR.putVecV {B : Base} {G : Ghost} {H : List AObj} {w : World} (wr : WR B G H w) {ob g n : Nat} {v : Value} (rv : RV G (.vec ob g 3 0 n) v) {C : List (List PV)} (hid : H[ob]? = some (.vec g C 3)) (hn : n ≤ C.length) (h0 : n ≠ 0) {zs : List Val} (hz : zs.map Val.cells = C) :
   ∃ b cap, v = .slice (some ⟨b, 0, none⟩) n cap ∧ C.length ≤ cap ∧ b < w.heap.size ∧ HoldsK encV 3 w b 0 zs.toArray ∧
     ∀ (zs' : List Val) W, zs'.length = C.length → SWK encV 3 w b 0 zs'.toArray W → ∃ G', GExt G G' ∧ WR B G' (H.set ob (.vec g (zs'.map Val.cells) 3)) W ∧ (∀ j, G.obj j = none → G'.obj j = none) ∧ ∀ k, k ≤ cap → RV G' (.vec ob g 3 0 k) (.slice (some ⟨b, 0, none⟩) k cap) := by
 subst hz
 obtain ⟨a, cap, own, a', V⟩ := vec_at wr rv hid
 have hc0 : 0 < cap := by have := V.fit; omega
 obtain ⟨b, ha, ha'⟩ := V.adr hc0
 have hlen : zs.length = (zs.map Val.cells).length := by simp
 obtain ⟨h1, h2, h3⟩ := V.row
 rcases h3 with ⟨_, h3⟩ | ⟨b', arr, t, ho, hb', hh, hs, hcell, hm⟩
 · omega
 rw [ha] at hb'
 simp only [Option.some.injEq, Addr.mk.injEq, and_true] at hb'
 subst hb'
 subst ho ha
 have hblt : b < w.heap.size := (Array.getElem?_eq_some_iff.1 hh).1
 refine ⟨b, cap, by rw [V.val, ha']; simp, h1, hblt, fun j hj => ?_, fun zs' W hl hS => ?_⟩
 · rw [flatK_eq] at hj ⊢
   have hj' : j < (flatV zs).length := by simpa using hj
   have hjz : j < zs.length * 3 := by rwa [flatV_len] at hj'
   have hja : j < arr.size := by omega
   rw [Nat.zero_add]
   refine ⟨?_, by simp [World.frozen?, hh]⟩
   have hcj : ((zs.map Val.cells).flatten)[j]? = some ((zs.map Val.cells).flatten[j]'(by rw [flatC]; exact hjz)) := List.getElem?_eq_getElem _
   have hv := hcell j _ (Array.getElem?_eq_getElem hja) _ hcj
   have hu := List.getElem?_eq_getElem hj'
   have e := (flatC_at zs j _ _ hcj hu G.mem).2 _ hv
   rw [cell_of_row w b j arr t (0, 0) hh, Array.getElem?_eq_getElem hja, e, getElem!_pos _ j (by simpa using hj')]
   simp
 · obtain ⟨q, os, rfl⟩ := hS
   have hobj := V.obj
   have hFK : flatK encV 3 zs'.toArray = (flatV zs').toArray := flatK_eq zs'
   have hfl : (flatV zs').length = (zs.map Val.cells).length * 3 := by rw [flatV_len, hl]
   have hcap3 : (zs.map Val.cells).length * 3 ≤ cap * 3 := Nat.mul_le_mul_right 3 h1
   have g1 := wr.vecSet (g' := g) (L' := zs'.map Val.cells) (arr := putCells id 0 (flatV zs').toArray arr) hid hobj hh hm (by simp [putCells, hs]) (by rw [List.length_map]; omega) h2 (fun e he => by obtain ⟨x, _, rfl⟩ := List.mem_map.1 he; rfl) (fun i u c hu hc => by
     have hi : i < (flatV zs').length := by
       have := (List.getElem?_eq_some_iff.1 hc).1
       rw [flatC] at this; rw [flatV_len]; exact this
     have hia : i < arr.size := by omega
     rw [putCells, Array.getElem?_mapIdx, Array.getElem?_eq_getElem hia] at hu
     simp only [Option.map_some, Option.some.injEq] at hu
     rw [if_pos ⟨Nat.zero_le _, by simpa using hi⟩, Nat.sub_zero, getElem!_pos _ i (by simpa using hi)] at hu
     have hu' : (flatV zs')[i]? = some u := by rw [List.getElem?_eq_getElem hi, ← hu]; simp
     exact (flatC_at zs' i c u hc hu' G.mem).1) rfl (Nat.le_refl _)
   refine ⟨_, g1.2.1, ?_, g1.2.2, fun k hk => ?_⟩
   · have hp : putRowK encV 3 (Sort.ahead w q) b 0 zs'.toArray = Sort.ahead (w.setRow b (putCells id 0 (flatV zs').toArray arr)) q := by
       rw [putRowK, putRow_ahead, ← hFK]
       have := putRowK_setRow hh zs'.toArray
       rw [← this]; rfl
     unfold sortWorldK
     rw [hp]
     have hb := below_end (w.setRow b (putCells id 0 (flatV zs').toArray arr)) q os
     refine g1.1.behind (m' := memW (w.setRow b (putCells id 0 (flatV zs').toArray arr))) (fun _ _ _ h => h) (fun x o u hu => ?_) hb
     have hx := cell?_lt hu
     exact (hb.cell (p := ⟨x, o, none⟩) hx).trans hu
   · exact .vec (Ghost.tok_obj _ _ _ _ _ _) (Nat.le_refl _) ⟨_, _, rfl, hk⟩ (fun _ => ⟨some ⟨b, 0, none⟩, cap, some ⟨b, 0, none⟩, rfl, h2, by omega, by rw [Nat.sub_zero], fun _ => ⟨b, rfl, by rw [Nat.zero_mul]⟩⟩)
theorem cloneV_a {H : List AObj} {Q : AV → List AObj → Prop} {C : List (List PV)} {zs : List Val} (hz : zs.map Val.cells = C) (hl : zs.length ≤ 2000000)
   (k : Q (.vec H.length 0 3 0 C.length) (H ++ [.vec 0 C 3])) : ACall Try.prog 33 [.p (.sl C)] H Q := by
 have hlen : C.length = zs.length := by rw [← hz]; simp
 refine ⟨fun B G w vals wr rv => ?_⟩
 obtain ⟨v, rfl⟩ : ∃ v, vals = [v] := by
   have := rv.1
   match vals, this with
   | [v], _ => exact ⟨v, rfl⟩
 have rv0 := rv.2 0 _ v rfl rfl
 have hp : RP G.mem (.sl C) v := by cases rv0; assumption
 obtain ⟨hR, hsl⟩ := hp.rdl hz wr.mem
 refine Runs.of_calls (by kernel_rfl) ((cloneV_w v zs w hR hsl hl).mono ?_)
 rintro e w' ⟨t, rfl, hown, hsin⟩
 have hbel : Go.RowKit.Below w.heap.size w w' := ⟨hsin.os, hsin.tape, hsin.output, hsin.size, fun k hk => hsin.block k hk⟩
 have hmem : ∀ b o v, G.mem b o = some v → w'.cell? ⟨b, o, none⟩ = some v := fun b o v h => by
   have := wr.mem b o v h
   rw [hbel.cell (cell?_lt this)]; exact this
 have hall : ∀ e, e ∈ C → e.length = 3 := fun e he => by rw [← hz] at he; obtain ⟨x, _, rfl⟩ := List.mem_map.1 he; rfl
 have hbb : Go.RowKit.Below B.w.heap.size B.w w' := wr.below.trans (hbel.mono wr.below.size)
 obtain ⟨_, ⟨rfl, h0⟩ | ⟨g, cap, cur, rfl, hg, hh, hcap, hmax, hcs, hcur⟩⟩ := hown
 · have gg := wr.newG (w' := w') (g0 := .tok 0 (.slice none 0 0) none) (x := .vec 0 C 3) hbb hmem (fun b hb => hbel.block b hb) hbel.size (fun b hb => by cases hb)
     ⟨hall, none, 0, none, Ghost.put_obj _ _ _ _, by omega, Nat.zero_le _, .inl ⟨rfl, rfl⟩⟩
   exact ⟨_, _, _, .ret (.vec (Ghost.put_obj _ _ _ _) (Nat.le_refl _) ⟨none, 0, by rw [hlen, h0], by omega⟩ (fun _ => ⟨none, 0, none, rfl, Nat.zero_le _, by omega, by rw [hlen, h0], fun h => by omega⟩)), gg.2, gg.1, k⟩
 · have hmn : ∀ o, G.mem g o = none := fun o => by
     cases hv : G.mem g o with
     | none => rfl
     | some v => have := cell?_lt (wr.mem _ _ _ hv); simp at this; omega
   have hglt : g < w'.heap.size := (Array.getElem?_eq_some_iff.1 hh).1
   have hcap3 : zs.length * 3 ≤ cap * 3 := Nat.mul_le_mul_right 3 hcap
   have gg := wr.newG (w' := w') (g0 := .tok 0 (.slice (some ⟨g, 0, none⟩) cap cap) (some g)) (x := .vec 0 C 3) hbb hmem (fun b hb => hbel.block b hb) hbel.size (fun b hb => by
       have e : (some g : Option Nat) = some b := hb
       simp only [Option.some.injEq] at e; subst e; exact ⟨hg, hglt⟩)
     ⟨hall, some ⟨g, 0, none⟩, cap, some g, Ghost.put_obj _ _ _ _, by omega, hmax, .inr ⟨g, cur, _, rfl, rfl, hh, hcs, fun j v hv cc hcc => by
       rw [← hz] at hcc
       have hj : j < zs.length * 3 := by have := (List.getElem?_eq_some_iff.1 hcc).1; rwa [flatC] at this
       have hv2 : (flatV zs)[j]? = some v := by
         rw [← hcur, List.getElem?_take_of_lt hj, Array.getElem?_toList]; exact hv
       exact (flatC_at zs j cc v hcc hv2 G.mem).1, hmn⟩⟩
   exact ⟨_, _, _, .ret (.vec (Ghost.put_obj _ _ _ _) (Nat.le_refl _) ⟨_, _, by rw [hlen], by omega⟩ (fun _ => ⟨_, cap, _, rfl, hmax, by omega, by rw [hlen, Nat.sub_zero], fun _ => ⟨g, rfl, by rw [Nat.zero_mul]⟩⟩)), gg.2, gg.1, k⟩
theorem deleteV_a {H : List AObj} {Q : AV → List AObj → Prop} (ob g n : Nat) {C : List (List PV)} {zs : List Val} (hid : H[ob]? = some (.vec g C 3)) (hz : zs.map Val.cells = C) (hn : C.length = n) (hb : n ≤ 2000000)
   (k : Q (.p (.sl ((stand zs).map Val.cells))) (H.set ob .gone)) : ACall Try.prog 32 [.vec ob g 3 0 n, .fn 34 []] H Q := by
 have hlen : zs.length = n := by rw [← hn, ← hz]; simp
 refine ⟨fun B G w vals wr rv => ?_⟩
 obtain ⟨v, u, rfl⟩ : ∃ v u, vals = [v, u] := by
   have := rv.1
   match vals, this with
   | [v, u], _ => exact ⟨v, u, rfl⟩
 have rv0 := rv.2 0 _ v rfl rfl
 have rv1 := rv.2 1 _ u rfl rfl
 obtain rfl : u = .func (.func 34) #[] #[] := by
   cases rv1 with
   | fn hl hr =>
     rename_i vs
     have : vs = #[] := by
       have : vs.size = 0 := hl
       exact Array.eq_empty_of_size_eq_zero this
     rw [this]
 by_cases h0 : n = 0
 · subst h0
   have hnil : zs = [] := List.length_eq_zero_iff.1 hlen
   subst hnil
   have hv : ∃ a cap, v = .slice a 0 cap := by
     cases rv0 with
     | vec _ _ hs _ => obtain ⟨a, c, e, _⟩ := hs; exact ⟨a, c, e⟩
   obtain ⟨a, cap, rfl⟩ := hv
   refine Runs.of_calls (by kernel_rfl) ((delete_short a cap _ w).mono ?_)
   rintro e w' ⟨rfl, rfl⟩
   obtain ⟨G1, e1, wr1, _, f1⟩ := wr.vecFreeze hid (by decide)
   have r1 := f1 0 0 _ (by omega) rv0
   have hC : C = [] := List.length_eq_zero_iff.1 hn
   subst hC
   exact ⟨_, G1, _, .ret r1, e1, wr1, k⟩
 · obtain ⟨b, cap, rfl, hcap, hblt, hH, hput⟩ := wr.putVecV rv0 hid (by omega) h0 hz
   refine Runs.of_calls (by kernel_rfl) ((delete_w b cap n zs w hH hblt hlen hb (by omega)).mono ?_)
   rintro e w' ⟨rfl, D, hD1, hD2, hS⟩
   obtain ⟨G1, e1, wr1, _, hr⟩ := hput D w' (by omega) hS
   have hlt := (List.getElem?_eq_some_iff.1 hid).1
   have hms : (stand zs).length ≤ zs.length := List.length_filter_le _ _
   obtain ⟨G2, e2, wr2, _, f2⟩ := wr1.vecFreeze (id := ob) (g := g) (L := D.map Val.cells) (sz := 3) (by rw [List.getElem?_set_self hlt]) (by decide)
   have r2 := f2 0 (stand zs).length _ (by rw [List.length_map]; omega) (hr _ (by omega))
   rw [List.drop_zero, ← List.map_take, hD2] at r2
   rw [List.set_set] at wr2
   exact ⟨_, G2, _, .ret r2, e1.trans e2, wr2, k⟩
theorem cloneVCC {cc : FuncId → List AV → List AObj → (AV → List AObj → Prop) → Prop} (hcc : ACall Try.prog = cc) {H : List AObj} {args : List AV} {K : AV → List AObj → Prop} {C : List (List PV)} {zs : List Val} {n : Nat} (ha : args = [.p (.sl C)]) (hz : zs.map Val.cells = C) (hl : zs.length ≤ 2000000) (hn : C.length = n)
   (k : K (.vec (lenX H) 0 3 0 n) (catX H [.vec 0 C 3])) : cc 33 args H K := by
 subst hcc ha hn
 rw [catX_eq, lenX_eq] at k
 exact cloneV_a hz hl k
theorem deleteVCC {cc : FuncId → List AV → List AObj → (AV → List AObj → Prop) → Prop} (hcc : ACall Try.prog = cc) {H : List AObj} {args : List AV} {K : AV → List AObj → Prop} (ob g n : Nat) {C : List (List PV)} (zs : List Val) (ha : args = [.vec ob g 3 0 n, .fn 34 []]) (hid : nth H ob = some (.vec g C 3)) (hz : zs.map Val.cells = C) (hn : C.length = n) (hb : n ≤ 2000000)
   (k : ∀ C', (stand zs).map Val.cells = C' → K (.p (.sl C')) (setX H ob .gone)) : cc 32 args H K := by
 subst hcc ha
 rw [nth_eq] at hid
 have hlt := (List.getElem?_eq_some_iff.1 hid).1
 refine deleteV_a ob g n hid hz hn hb ?_
 have := k _ rfl
 rwa [setX_eq _ _ _ (by omega), if_pos hlt] at this
end Go.Proofs.Ytcajncmjlmpkgaa

namespace Go.Proofs.Ytcajncmjlmpkgaa
open Go Go.RowKit
set_option maxRecDepth 100000
set_option linter.unusedSimpArgs false
set_option linter.unusedVariables false
theorem mintArgCC {P : Program} {cc : FuncId → List AV → List AObj → (AV → List AObj → Prop) → Prop} (hcc : ACall P = cc) {f : FuncId} {args rest : List AV} {l : List (List PV)} {H : List AObj} {K : AV → List AObj → Prop} (size : Nat) (ha : args = .full l :: rest)
   (h : cc f (.tok (lenX H) l :: rest) (catX H [.spare l.length size]) K) : cc f args H K := by
 subst ha
 subst hcc
 rw [catX_eq, lenX_eq] at h
 refine ⟨fun B G w vals wr rv => ?_⟩
 obtain ⟨rl, rr⟩ := rv
 match vals, rl, rr with
 | [], rl, _ => simp at rl
 | v :: vals, rl, rr =>
   obtain ⟨G', e, wr', rv'⟩ := wr.mintV size (rr 0 _ v rfl rfl)
   refine (h.run B G' w (v :: vals) wr' ⟨rl, fun i x y hx hy => ?_⟩).mono ?_
   · match i with
     | 0 =>
       simp only [List.getElem?_cons_zero, Option.some.injEq] at hx hy
       subst hx hy
       exact rv'
     | i + 1 => exact (rr (i + 1) x y hx hy).mono e
   · rintro en w' ⟨r, G2, H2, e1, e3, e4, e5⟩
     exact ⟨r, G2, H2, e1, e.trans e3, e4, e5⟩
def byO (z : Int) : UInt8 := UInt8.ofNat (IntKind.u8.wrap z).toNat
theorem byO_c (z : Int) : byteC (byO z) = [PV.int .u8 (IntKind.u8.wrap z)] := by
 have := u8_in z
 have e : ((byO z).toNat : Int) = IntKind.u8.wrap z := by
   rw [byO, UInt8.toNat_ofNat']
   omega
 rw [byteC, e]
def markB (v : Vec) : List UInt8 := if (stand (valuesM v)).length = (valuesM v).length then [0] else [1] ++ bitsB 1 (v.null.map fun b => if b then 1 else 0)
def headB (k : Int) (v : Vec) : List UInt8 := [byO k, byO v.kind] ++ byW 4 (u64 (valuesM v).length) ++ markB v
theorem markB_all {v : Vec} (h : (stand (valuesM v)).length = (valuesM v).length) : markB v = [0] := if_pos h
theorem markB_some {v : Vec} (h : ¬ (stand (valuesM v)).length = (valuesM v).length) : markB v = [1] ++ bitsB 1 (v.null.map fun b => if b then 1 else 0) := if_neg h
end Go.Proofs.Ytcajncmjlmpkgaa

namespace Go.Proofs.Ytcajncmjlmpkgaa
open Go Go.RowKit
set_option maxRecDepth 100000
set_option linter.unusedSimpArgs false
set_option linter.unusedVariables false
set_option maxHeartbeats 400000 in
theorem write1_c (a : Int) (B : List Bool) (N : List Int) (S : List ByteArray) (n1 n2 n3 : List (List PV)) (h1 : B.map boolc = n1) (h2 : N.map i64c = n2) (h3 : S.map strc = n3) (hg : goodV ⟨a, B, N, S⟩ = true) (hB : B.length ≤ 4096) (hl : Few (stand (valuesM ⟨a, B, N, S⟩))) (hvl : (valuesM ⟨a, B, N, S⟩).length ≤ 4096) :
   PCall Try.prog 7 [.agg [.int .i64 a, .sl n1, .sl n2, .sl n3], .int .i64 1] fun r => r = [.str (toB (headB 1 ⟨a, B, N, S⟩ ++ plainB (stand (valuesM ⟨a, B, N, S⟩)))), .int .i64 0] := by
 have b1 : n1.length = B.length := by rw [← h1]; simp
 have hm1 := @markB_all ⟨a, B, N, S⟩
 have hm2 := @markB_some ⟨a, B, N, S⟩
 have hhB : headB 1 ⟨a, B, N, S⟩ = [byO 1, byO a] ++ byW 4 (u64 (valuesM ⟨a, B, N, S⟩).length) ++ markB ⟨a, B, N, S⟩ := rfl
 obtain ⟨hd, hhd⟩ : ∃ hd, headB 1 ⟨a, B, N, S⟩ = hd := ⟨_, rfl⟩
 obtain ⟨mk, hmk⟩ : ∃ mk, markB ⟨a, B, N, S⟩ = mk := ⟨_, rfl⟩
 rw [hhd] at hhB ⊢
 rw [hmk] at hhB hm1 hm2
 have hgc := good_c a B N S n1 n2 n3 h1 h2 h3
 rw [hg] at hgc
 have hvc := vvalues_c a B N S n1 n2 n3 h1 h2 h3 (by omega)
 obtain ⟨vs, hvs⟩ : ∃ vs, valuesM ⟨a, B, N, S⟩ = vs := ⟨_, rfl⟩
 obtain ⟨C, hC⟩ : ∃ C, vs.map Val.cells = C := ⟨_, rfl⟩
 rw [hvs] at hl hvl hm1 hm2 hhB ⊢
 rw [hvs, hC] at hvc
 obtain ⟨bits, hbits⟩ : ∃ bits, bitsB 1 (B.map fun b => if b then (1 : Int) else 0) = bits := ⟨_, rfl⟩
 rw [hbits] at hm2
 clear hmk hhd hg hvs
 obtain ⟨nC, hnC⟩ : ∃ nC, C.length = nC := ⟨_, rfl⟩
 have hnv : nC = vs.length := by rw [← hnC, ← hC, List.length_map]
 have hvl2 : vs.length ≤ 2000000 := by omega
 have hnC2 : nC ≤ 2000000 := by omega
 have hpos : ∀ {x m : Int}, IntKind.u64.wrap x = m → 0 ≤ m := fun h => h ▸ u64_pos _
 have htwo : ∀ {z1 z2 : Int}, IntKind.u8.wrap 1 = z1 → IntKind.u8.wrap a = z2 → bl [byO 1, byO a] = [[PV.int .u8 z1], [PV.int .u8 z2]] := by
   rintro z1 z2 rfl rfl
   show [byteC (byO 1), byteC (byO a)] = _
   rw [byO_c, byO_c]
 generalize byO 1 = kb at *
 generalize byO a = ab at *
 have hx1 : ∀ {p : Prop}, decide ((1 : Int) < 1) = true → p := fun h => absurd h (by decide)
 have hx2 : ∀ {p : Prop}, decide ((4 : Int) < 1) = true → p := fun h => absurd h (by decide)
 have hx3 : ¬ decide ((1 : Int) = 4) = true := by decide
 have hx4 : ∀ {p : Prop} {z : Bool}, (!z) = true → true = z → p := by rintro p z h rfl; cases h
 have hx5 : ∀ {p : Prop} {z : Int}, decide (4096 < z) = true → (n1.length : Int) = z → p := by
   intro p z h h2
   have := of_decide_eq_true h
   omega
 have hix0 : ∀ {z1 : Int} {z : Nat}, 0 + z1.toNat * 1 = z → IntKind.i64.wrap (1 - 1) = z1 → z = 1 - 1 := by rintro z1 z rfl rfl; decide
 have hix1 : ∀ {z : Int}, IntKind.i64.wrap (1 - 1) = z → 0 ≤ z ∧ z < ((4 : Nat) : Int) ∧ ¬ (1 : Nat) = 0 := by rintro z rfl; decide
 have hU8 : ∀ {b : List UInt8} {L : List (List PV)}, bl b = L → isU8s L = true := by rintro b L rfl; exact isU8s_bytes b
 have hLhl : ∀ {z : Int}, ([kb, ab] ++ byW 4 z).length ≤ 100000000 := by
   intro z; rw [List.length_append, byW_len]; show 2 + 4 ≤ _; omega
 have hO0 : ∀ {c : UInt8} {d z5 : Int} {Lh L2 : List (List PV)} {m2 : Nat}, bl ([kb, ab] ++ byW 4 z5) = Lh → Lh ++ [[PV.int .u8 d]] = L2 → Lh.length + [[PV.int .u8 d]].length = m2 → (c.toNat : Int) = d → OwnB 1000 ([kb, ab] ++ byW 4 z5 ++ [c]) L2 m2 := by
   rintro c d z5 Lh L2 m2 rfl rfl rfl rfl
   refine .mk' (List.map_append) (by rw [List.length_append]) ?_
   rw [List.length_append, List.length_append, byW_len]; show 2 + 4 + 1 ≤ _; omega
 have hhd : ∀ {z3 z5 : Int}, (C.length : Int) = z3 → IntKind.u64.wrap z3 = z5 → z5 = u64 vs.length := by
   rintro z3 z5 rfl rfl; rw [hnC, hnv]; rfl
 have hst1 : ∀ {C' : List (List PV)} {p q z3 z5 : Int}, (stand vs).map Val.cells = C' → (C'.length : Int) = p → (C.length : Int) = q → decide (p = q) = true → (C.length : Int) = z3 → IntKind.u64.wrap z3 = z5 → hd = [kb, ab] ++ byW 4 z5 ++ [0] := by
   intro C' p q z3 z5 e1 e2 e3 e4 e5 e6
   have := of_decide_eq_true e4
   have hcl : C'.length = (stand vs).length := by rw [← e1, List.length_map]
   rw [hhB, hm1 (by omega), hhd e5 e6]
 have hst0 : ∀ {C' : List (List PV)} {p q z3 z5 : Int}, (stand vs).map Val.cells = C' → (C'.length : Int) = p → (C.length : Int) = q → decide (p = q) = false → (C.length : Int) = z3 → IntKind.u64.wrap z3 = z5 → hd = [kb, ab] ++ byW 4 z5 ++ [1] ++ bits := by
   intro C' p q z3 z5 e1 e2 e3 e4 e5 e6
   have := of_decide_eq_false e4
   have hcl : C'.length = (stand vs).length := by rw [← e1, List.length_map]
   rw [hhB, hm2 (by omega), hhd e5 e6, ← List.append_assoc]
 have h0c : (((0 : UInt8).toNat : Nat) : Int) = 0 := rfl
 have h1c : (((1 : UInt8).toNat : Nat) : Int) = 1 := rfl
 refine PCall.x (nt := ⟨87, []⟩) (res := [.tmp 4, .tmp 5]) mixed tt_ok [] Try.func7 rfl rfl rfl c7 (Nat.le_of_ble_eq_true rfl) ?_
 intro cp cc lp Q' hcp hcc hlp hQ
 repeat' (first
   | (with_reducible exact absurd (by assumption) hx3)
   | (have hz0 := hix0 (by assumption) (by assumption); subst hz0)
   | (with_reducible refine Nm.mk ?_; intro z hz)
   | (with_reducible refine IfB.mk ?_ ?_ <;> (intro h; cases h))
   | (with_reducible refine Two.l ?_; refine Asm.mk ?_ ?_; focus (decide +kernel))
   | (with_reducible refine Two.r ?_)
   | (with_reducible refine TwoT.r ?_)
   | (with_reducible refine TwoU.r ?_)
   | (with_reducible refine Asm.mk ?_ ?_; focus (first | exact hU8 (by assumption) | exact hix1 (by assumption) | exact (OwnB.mk' (N := 100000000) (by assumption) (by assumption) hLhl).side (by decide) rfl (Nat.le_of_ble_eq_true rfl) | (show (_ : Bool) = true; kernel_rfl)))
   | (with_reducible refine isCP hcp ?_; first | (refine bP hcp (hgc) ?_; intro z hz) | (refine eP hcp (hvc) ?_; rintro r rfl))
   | (with_reducible refine isCC hcc ?_; first | (refine bA hcc (hgc) rfl ?_; intro z hz) | (refine bR hcc (hgc) rfl ?_; intro z hz) | (refine eA hcc (hvc) rfl ?_; rintro r rfl))
   | (with_reducible refine isCC hcc ?_; refine plainCC hcc 2 hC' hl _ rfl ((hO0 (by assumption) (by assumption) (by assumption) h0c).mono (by decide)) rfl ?_; intro Lr mr hLr hmr)
   | (with_reducible refine isCC hcc ?_; refine cloneVCC hcc rfl hC hvl2 hnC ?_)
   | (with_reducible refine isCC hcc ?_; refine deleteVCC hcc 1 0 nC vs rfl rfl hC hnC hnC2 ?_; intro C' hC')
   | (with_reducible refine isCC hcc ?_; refine mintArgCC hcc 1 rfl ?_; refine putWCC hcc 2 4 [kb, ab] rfl (hpos (by assumption)) (by decide) (htwo (by assumption) (by assumption)) rfl (Nat.le_of_ble_eq_true rfl) rfl ?_; intro Lh mh hLh hmh)
   | (with_reducible refine Asm.mk2 ?_ ?_)
   | ((fail_if_success (with_reducible first | refine hQ _ ?_ | refine Side.mk ?_ | refine isCP hcp ?_ | refine isCC hcc ?_ | refine isLP hlp ?_ | refine Ix.mk ?_ | refine SIx.mk ?_ | refine SEx.mk ?_ | refine EIx.mk ?_ | refine RIx.mk ?_ | refine LkX.mk ?_ | show False | refine hR ?_ _ ?_ ?_ ?_ ?_ ?_ | refine hR2 ?_ _ ?_ ?_ ?_ ?_ ?_)); cbv))
 all_goals first | exact hx1 (by assumption) | exact hx2 (by assumption) | exact hx4 (by assumption) (by assumption) | exact hx5 (by assumption) (by assumption) | skip
 · rename_i zc hzc zu hzu zp hzp zq hzq hpq zL hzL zm hzm zi hzi hzi2
   have hh := hst1 hC' hzp hzq hpq hzc hzu
   refine hQ _ ?_
   rw [hh, ← hz, ← hLr, strOf_bytes]
 · rename_i zc hzc zu hzu zp hzp zq hzq hpq
   have hzl : z = (B.length : Int) := by rw [← hz, ← b1]
   clear hz
   have hh := hst0 hC' hzp hzq hpq hzc hzu
   refine mintVX hlp 1 3 0 rfl rfl ?_
   refine loopT (ι := Int × Nat × List (List PV) × Nat) mixed tt_ok hcp hcc hlp [1, 7, 8, 9, 62, 63] (fun p => [(64, .p (.int .i64 p.1))]) (fun p => [.cells [.p (.int .i64 a), .p (.sl n1), .p (.sl n2), .p (.sl n3)], .gone, .spare mh 1, .cells [.vec 4 p.2.1 1 0 p.2.2.2, .p (.int .i64 p.1)], .vec p.2.1 p.2.2.1 1]) (fun p => 0 ≤ p.1 ∧ p.1 ≤ B.length ∧ bl (bitsB 1 ((B.take p.1.toNat).map fun b => if b then (1 : Int) else 0)) = p.2.2.1 ∧ p.2.2.1.length = p.2.2.2) (fun p => (B.length - p.1).toNat) (0, 0, [], 0) 5 (fun _ => rfl) ⟨Int.le_refl _, by show (0 : Int) ≤ _; omega, rfl, rfl⟩ ⟨rfl, trivial⟩ rfl ?_
   rintro R2 ⟨j, g, L, n⟩ ⟨hj0, hj1, hL, hn⟩ hR2
   replace hj0 : 0 ≤ j := hj0
   replace hj1 : j ≤ B.length := hj1
   replace hL : bl (bitsB 1 ((B.take j.toNat).map fun b => if b then (1 : Int) else 0)) = L := hL
   replace hn : L.length = n := hn
   have hA8 : At8 j (bitsB 1 ((B.take j.toNat).map fun b => if b then (1 : Int) else 0)) := by
     have := bitsB_at (W := 1) (by decide) ((B.take j.toNat).map fun b => if b then (1 : Int) else 0)
     rw [List.length_map, List.length_take, show (1 : Int) * ((min j.toNat B.length : Nat) : Int) = j by omega] at this
     exact this
   have hj2 : j ≤ 1000000000 := by omega
   have hLlen : L.length ≤ 100000 := by
     have := hA8.2
     rw [← hL, List.length_map]; omega
   have hdrop : ∀ {y : List (List PV)}, List.take n (List.drop 0 L) = y → okEs 1 y = true ∧ y.length ≤ 1000000000 ∧ y = L := by
     rintro y rfl
     have e : List.take n (List.drop 0 L) = L := by rw [List.drop_zero, ← hn, List.take_length]
     rw [e]
     exact ⟨by rw [← hL]; exact okEs_bl _, by omega, rfl⟩
   have hnL : 0 + n ≤ L.length := by omega
   have hk2 : decide (j < z) = true → j < B.length := fun h => by have := of_decide_eq_true h; omega
   have hgo2 : decide (j < z) = true → 0 ≤ j + 1 ∧ j + 1 ≤ B.length ∧ (B.length - (j + 1)).toNat < (B.length - j).toNat ∧ IntKind.i64.wrap (j + 1) = j + 1 ∧ (j + 1).toNat = j.toNat + 1 ∧ (1 : Int) * ((j.toNat : Nat) : Int) = j := by
     intro h
     have := of_decide_eq_true h
     exact ⟨by omega, by omega, by omega, wrap_in (by omega), by omega, by omega⟩
   have hend2 : decide (j < z) = false → bl bits = L := by
     intro h
     have := of_decide_eq_false h
     rw [← hL, ← hbits, show j.toNat = B.length by omega, List.take_length]
   have hO3 : ∀ {y L2 L4 : List (List PV)} {m2 m4 : Nat}, List.take n (List.drop 0 L) = y → decide (j < z) = false → Lh ++ [[PV.int .u8 1]] = L2 → Lh.length + [[PV.int .u8 1]].length = m2 → L2 ++ y = L4 → L2.length + y.length = m4 → OwnB 40000000 ([kb, ab] ++ byW 4 zu ++ [1] ++ bits) L4 m4 := by
     intro y L2 L4 m2 m4 e1 e2 e3 e4 e5 e6
     have o := hO0 hLh e3 e4 h1c
     have hb := hend2 e2
     refine .mk' ?_ (by rw [← e5, List.length_append]; exact e6) ?_
     · rw [← e5, (hdrop e1).2.2, ← hb, ← o.e]; exact List.map_append
     · have h5 := o.blen
       have h6 := o.le
       have h7 : bits.length = L.length := by rw [← hb, List.length_map]
       rw [List.length_append]; omega
   repeat' (first
     | (have hz0 := hix0 (by assumption) (by assumption); subst hz0)
     | (with_reducible refine Nm.mk ?_; intro z hz)
     | (with_reducible refine IfB.mk ?_ ?_ <;> (intro h; cases h))
     | (with_reducible refine Two.l ?_; refine Asm.mk ?_ ?_; focus (decide +kernel))
     | (with_reducible refine Two.r ?_)
     | (with_reducible refine TwoT.r ?_)
     | (with_reducible refine TwoU.r ?_)
     | (with_reducible refine Asm.mk ?_ ?_; focus (first | exact hU8 (by assumption) | exact hix1 (by assumption) | exact ⟨rfl, rfl, hnL⟩ | exact (OwnB.mk' (N := 100000000) (by assumption) (by assumption) hLhl).side (by decide) rfl (Nat.le_of_ble_eq_true rfl) | exact ((hO0 hLh (by assumption) (by assumption) h1c).mono (by decide : 1000 ≤ 100000000)).side (by decide) (hdrop (by assumption)).1 (hdrop (by assumption)).2.1 | (show (_ : Bool) = true; kernel_rfl)))
     | (with_reducible refine Ix.map h1 (fun _ => rfl) (by decide) hj0 (hk2 (by assumption)) ?_; intro x hx)
     | (with_reducible refine isCC hcc ?_; refine putCC hcc 3 4 (by decide) _ 1 j (by decide) g _ hA8 hj2 hL hn rfl rfl rfl ?_; intro g' L' n' a' hL' hn' ha')
     | (with_reducible refine isCC hcc ?_; refine plainCC hcc 2 hC' hl _ rfl ((hO3 (by assumption) (by assumption) (by assumption) (by assumption) (by assumption) (by assumption)).mono (by decide)) rfl ?_; intro Lr mr hLr hmr)
     | (with_reducible refine Asm.mk2 ?_ ?_)
     | ((fail_if_success (with_reducible first | refine hQ _ ?_ | refine Side.mk ?_ | refine isCP hcp ?_ | refine isCC hcc ?_ | refine isLP hlp ?_ | refine Ix.mk ?_ | refine SIx.mk ?_ | refine SEx.mk ?_ | refine EIx.mk ?_ | refine RIx.mk ?_ | refine LkX.mk ?_ | show False | refine hR ?_ _ ?_ ?_ ?_ ?_ ?_ | refine hR2 ?_ _ ?_ ?_ ?_ ?_ ?_)); cbv))
   · rename_i hjz
     obtain ⟨g1, g2, g3, g4, g5, g6⟩ := hgo2 (by assumption)
     rw [g4] at hz
     subst hz
     subst ha'
     refine hR2 (j + 1, g', L', n') _ ⟨g1, g2, ?_, hn'⟩ g3 ⟨rfl, trivial⟩ ⟨rfl, rfl, rfl, rfl, rfl, rfl, trivial⟩ rfl
     show bl (bitsB 1 ((B.take (j + 1).toNat).map fun b => if b then (1 : Int) else 0)) = L'
     rw [g5, bitsB_succ hx, g6, ← hL']; rfl
   · rename_i hjz
     obtain ⟨g1, g2, g3, g4, g5, g6⟩ := hgo2 (by assumption)
     rw [g4] at hz
     subst hz
     subst ha'
     refine hR2 (j + 1, g', L', n') _ ⟨g1, g2, ?_, hn'⟩ g3 ⟨rfl, trivial⟩ ⟨rfl, rfl, rfl, rfl, rfl, rfl, trivial⟩ rfl
     show bl (bitsB 1 ((B.take (j + 1).toNat).map fun b => if b then (1 : Int) else 0)) = L'
     rw [g5, bitsB_succ hx, g6, ← hL']; rfl
   · refine hQ _ ?_
     rw [hh, ← hz, ← hLr, strOf_bytes]
end Go.Proofs.Ytcajncmjlmpkgaa

namespace Go.Proofs.Ytcajncmjlmpkgaa
open Go Go.RowKit
set_option maxRecDepth 100000
set_option linter.unusedSimpArgs false
set_option linter.unusedVariables false
set_option maxHeartbeats 400000 in
theorem write2_c (a : Int) (B : List Bool) (N : List Int) (S : List ByteArray) (n1 n2 n3 : List (List PV)) (h1 : B.map boolc = n1) (h2 : N.map i64c = n2) (h3 : S.map strc = n3) (hg : goodV ⟨a, B, N, S⟩ = true) (hB : B.length ≤ 4096) (hl : Few (stand (valuesM ⟨a, B, N, S⟩))) (hvl : (valuesM ⟨a, B, N, S⟩).length ≤ 4096) :
   PCall Try.prog 7 [.agg [.int .i64 a, .sl n1, .sl n2, .sl n3], .int .i64 2] fun r => r = [.str (toB (headB 2 ⟨a, B, N, S⟩ ++ runsB (stand (valuesM ⟨a, B, N, S⟩)))), .int .i64 0] := by
 have b1 : n1.length = B.length := by rw [← h1]; simp
 have hm1 := @markB_all ⟨a, B, N, S⟩
 have hm2 := @markB_some ⟨a, B, N, S⟩
 have hhB : headB 2 ⟨a, B, N, S⟩ = [byO 2, byO a] ++ byW 4 (u64 (valuesM ⟨a, B, N, S⟩).length) ++ markB ⟨a, B, N, S⟩ := rfl
 obtain ⟨hd, hhd⟩ : ∃ hd, headB 2 ⟨a, B, N, S⟩ = hd := ⟨_, rfl⟩
 obtain ⟨mk, hmk⟩ : ∃ mk, markB ⟨a, B, N, S⟩ = mk := ⟨_, rfl⟩
 rw [hhd] at hhB ⊢
 rw [hmk] at hhB hm1 hm2
 have hgc := good_c a B N S n1 n2 n3 h1 h2 h3
 rw [hg] at hgc
 have hvc := vvalues_c a B N S n1 n2 n3 h1 h2 h3 (by omega)
 obtain ⟨vs, hvs⟩ : ∃ vs, valuesM ⟨a, B, N, S⟩ = vs := ⟨_, rfl⟩
 obtain ⟨C, hC⟩ : ∃ C, vs.map Val.cells = C := ⟨_, rfl⟩
 rw [hvs] at hl hvl hm1 hm2 hhB ⊢
 rw [hvs, hC] at hvc
 obtain ⟨bits, hbits⟩ : ∃ bits, bitsB 1 (B.map fun b => if b then (1 : Int) else 0) = bits := ⟨_, rfl⟩
 rw [hbits] at hm2
 clear hmk hhd hg hvs
 obtain ⟨nC, hnC⟩ : ∃ nC, C.length = nC := ⟨_, rfl⟩
 have hnv : nC = vs.length := by rw [← hnC, ← hC, List.length_map]
 have hvl2 : vs.length ≤ 2000000 := by omega
 have hnC2 : nC ≤ 2000000 := by omega
 have hpos : ∀ {x m : Int}, IntKind.u64.wrap x = m → 0 ≤ m := fun h => h ▸ u64_pos _
 have htwo : ∀ {z1 z2 : Int}, IntKind.u8.wrap 2 = z1 → IntKind.u8.wrap a = z2 → bl [byO 2, byO a] = [[PV.int .u8 z1], [PV.int .u8 z2]] := by
   rintro z1 z2 rfl rfl
   show [byteC (byO 2), byteC (byO a)] = _
   rw [byO_c, byO_c]
 generalize byO 2 = kb at *
 generalize byO a = ab at *
 have hx1 : ∀ {p : Prop}, decide ((2 : Int) < 1) = true → p := fun h => absurd h (by decide)
 have hx2 : ∀ {p : Prop}, decide ((4 : Int) < 2) = true → p := fun h => absurd h (by decide)
 have hx3 : ¬ decide ((2 : Int) = 4) = true := by decide
 have hx4 : ∀ {p : Prop} {z : Bool}, (!z) = true → true = z → p := by rintro p z h rfl; cases h
 have hx5 : ∀ {p : Prop} {z : Int}, decide (4096 < z) = true → (n1.length : Int) = z → p := by
   intro p z h h2
   have := of_decide_eq_true h
   omega
 have hix0 : ∀ {z1 : Int} {z : Nat}, 0 + z1.toNat * 1 = z → IntKind.i64.wrap (2 - 1) = z1 → z = 2 - 1 := by rintro z1 z rfl rfl; decide
 have hix1 : ∀ {z : Int}, IntKind.i64.wrap (2 - 1) = z → 0 ≤ z ∧ z < ((4 : Nat) : Int) ∧ ¬ (1 : Nat) = 0 := by rintro z rfl; decide
 have hU8 : ∀ {b : List UInt8} {L : List (List PV)}, bl b = L → isU8s L = true := by rintro b L rfl; exact isU8s_bytes b
 have hLhl : ∀ {z : Int}, ([kb, ab] ++ byW 4 z).length ≤ 100000000 := by
   intro z; rw [List.length_append, byW_len]; show 2 + 4 ≤ _; omega
 have hO0 : ∀ {c : UInt8} {d z5 : Int} {Lh L2 : List (List PV)} {m2 : Nat}, bl ([kb, ab] ++ byW 4 z5) = Lh → Lh ++ [[PV.int .u8 d]] = L2 → Lh.length + [[PV.int .u8 d]].length = m2 → (c.toNat : Int) = d → OwnB 1000 ([kb, ab] ++ byW 4 z5 ++ [c]) L2 m2 := by
   rintro c d z5 Lh L2 m2 rfl rfl rfl rfl
   refine .mk' (List.map_append) (by rw [List.length_append]) ?_
   rw [List.length_append, List.length_append, byW_len]; show 2 + 4 + 1 ≤ _; omega
 have hhd : ∀ {z3 z5 : Int}, (C.length : Int) = z3 → IntKind.u64.wrap z3 = z5 → z5 = u64 vs.length := by
   rintro z3 z5 rfl rfl; rw [hnC, hnv]; rfl
 have hst1 : ∀ {C' : List (List PV)} {p q z3 z5 : Int}, (stand vs).map Val.cells = C' → (C'.length : Int) = p → (C.length : Int) = q → decide (p = q) = true → (C.length : Int) = z3 → IntKind.u64.wrap z3 = z5 → hd = [kb, ab] ++ byW 4 z5 ++ [0] := by
   intro C' p q z3 z5 e1 e2 e3 e4 e5 e6
   have := of_decide_eq_true e4
   have hcl : C'.length = (stand vs).length := by rw [← e1, List.length_map]
   rw [hhB, hm1 (by omega), hhd e5 e6]
 have hst0 : ∀ {C' : List (List PV)} {p q z3 z5 : Int}, (stand vs).map Val.cells = C' → (C'.length : Int) = p → (C.length : Int) = q → decide (p = q) = false → (C.length : Int) = z3 → IntKind.u64.wrap z3 = z5 → hd = [kb, ab] ++ byW 4 z5 ++ [1] ++ bits := by
   intro C' p q z3 z5 e1 e2 e3 e4 e5 e6
   have := of_decide_eq_false e4
   have hcl : C'.length = (stand vs).length := by rw [← e1, List.length_map]
   rw [hhB, hm2 (by omega), hhd e5 e6, ← List.append_assoc]
 have h0c : (((0 : UInt8).toNat : Nat) : Int) = 0 := rfl
 have h1c : (((1 : UInt8).toNat : Nat) : Int) = 1 := rfl
 refine PCall.x (nt := ⟨87, []⟩) (res := [.tmp 4, .tmp 5]) mixed tt_ok [] Try.func7 rfl rfl rfl c7 (Nat.le_of_ble_eq_true rfl) ?_
 intro cp cc lp Q' hcp hcc hlp hQ
 repeat' (first
   | (with_reducible exact absurd (by assumption) hx3)
   | (have hz0 := hix0 (by assumption) (by assumption); subst hz0)
   | (with_reducible refine Nm.mk ?_; intro z hz)
   | (with_reducible refine IfB.mk ?_ ?_ <;> (intro h; cases h))
   | (with_reducible refine Two.l ?_; refine Asm.mk ?_ ?_; focus (decide +kernel))
   | (with_reducible refine Two.r ?_)
   | (with_reducible refine TwoT.r ?_)
   | (with_reducible refine TwoU.r ?_)
   | (with_reducible refine Asm.mk ?_ ?_; focus (first | exact hU8 (by assumption) | exact hix1 (by assumption) | exact (OwnB.mk' (N := 100000000) (by assumption) (by assumption) hLhl).side (by decide) rfl (Nat.le_of_ble_eq_true rfl) | (show (_ : Bool) = true; kernel_rfl)))
   | (with_reducible refine isCP hcp ?_; first | (refine bP hcp (hgc) ?_; intro z hz) | (refine eP hcp (hvc) ?_; rintro r rfl))
   | (with_reducible refine isCC hcc ?_; first | (refine bA hcc (hgc) rfl ?_; intro z hz) | (refine bR hcc (hgc) rfl ?_; intro z hz) | (refine eA hcc (hvc) rfl ?_; rintro r rfl))
   | (with_reducible refine isCC hcc ?_; refine runsCC hcc 2 hC' hl _ rfl ((hO0 (by assumption) (by assumption) (by assumption) h0c).mono (by decide)) rfl ?_; intro Lr mr hLr hmr)
   | (with_reducible refine isCC hcc ?_; refine cloneVCC hcc rfl hC hvl2 hnC ?_)
   | (with_reducible refine isCC hcc ?_; refine deleteVCC hcc 1 0 nC vs rfl rfl hC hnC hnC2 ?_; intro C' hC')
   | (with_reducible refine isCC hcc ?_; refine mintArgCC hcc 1 rfl ?_; refine putWCC hcc 2 4 [kb, ab] rfl (hpos (by assumption)) (by decide) (htwo (by assumption) (by assumption)) rfl (Nat.le_of_ble_eq_true rfl) rfl ?_; intro Lh mh hLh hmh)
   | (with_reducible refine Asm.mk2 ?_ ?_)
   | ((fail_if_success (with_reducible first | refine hQ _ ?_ | refine Side.mk ?_ | refine isCP hcp ?_ | refine isCC hcc ?_ | refine isLP hlp ?_ | refine Ix.mk ?_ | refine SIx.mk ?_ | refine SEx.mk ?_ | refine EIx.mk ?_ | refine RIx.mk ?_ | refine LkX.mk ?_ | show False | refine hR ?_ _ ?_ ?_ ?_ ?_ ?_ | refine hR2 ?_ _ ?_ ?_ ?_ ?_ ?_)); cbv))
 all_goals first | exact hx1 (by assumption) | exact hx2 (by assumption) | exact hx4 (by assumption) (by assumption) | exact hx5 (by assumption) (by assumption) | skip
 · rename_i zc hzc zu hzu zp hzp zq hzq hpq zL hzL zm hzm zi hzi hzi2
   have hh := hst1 hC' hzp hzq hpq hzc hzu
   refine hQ _ ?_
   rw [hh, ← hz, ← hLr, strOf_bytes]
 · rename_i zc hzc zu hzu zp hzp zq hzq hpq
   have hzl : z = (B.length : Int) := by rw [← hz, ← b1]
   clear hz
   have hh := hst0 hC' hzp hzq hpq hzc hzu
   refine mintVX hlp 1 3 0 rfl rfl ?_
   refine loopT (ι := Int × Nat × List (List PV) × Nat) mixed tt_ok hcp hcc hlp [1, 7, 8, 9, 62, 63] (fun p => [(64, .p (.int .i64 p.1))]) (fun p => [.cells [.p (.int .i64 a), .p (.sl n1), .p (.sl n2), .p (.sl n3)], .gone, .spare mh 1, .cells [.vec 4 p.2.1 1 0 p.2.2.2, .p (.int .i64 p.1)], .vec p.2.1 p.2.2.1 1]) (fun p => 0 ≤ p.1 ∧ p.1 ≤ B.length ∧ bl (bitsB 1 ((B.take p.1.toNat).map fun b => if b then (1 : Int) else 0)) = p.2.2.1 ∧ p.2.2.1.length = p.2.2.2) (fun p => (B.length - p.1).toNat) (0, 0, [], 0) 5 (fun _ => rfl) ⟨Int.le_refl _, by show (0 : Int) ≤ _; omega, rfl, rfl⟩ ⟨rfl, trivial⟩ rfl ?_
   rintro R2 ⟨j, g, L, n⟩ ⟨hj0, hj1, hL, hn⟩ hR2
   replace hj0 : 0 ≤ j := hj0
   replace hj1 : j ≤ B.length := hj1
   replace hL : bl (bitsB 1 ((B.take j.toNat).map fun b => if b then (1 : Int) else 0)) = L := hL
   replace hn : L.length = n := hn
   have hA8 : At8 j (bitsB 1 ((B.take j.toNat).map fun b => if b then (1 : Int) else 0)) := by
     have := bitsB_at (W := 1) (by decide) ((B.take j.toNat).map fun b => if b then (1 : Int) else 0)
     rw [List.length_map, List.length_take, show (1 : Int) * ((min j.toNat B.length : Nat) : Int) = j by omega] at this
     exact this
   have hj2 : j ≤ 1000000000 := by omega
   have hLlen : L.length ≤ 100000 := by
     have := hA8.2
     rw [← hL, List.length_map]; omega
   have hdrop : ∀ {y : List (List PV)}, List.take n (List.drop 0 L) = y → okEs 1 y = true ∧ y.length ≤ 1000000000 ∧ y = L := by
     rintro y rfl
     have e : List.take n (List.drop 0 L) = L := by rw [List.drop_zero, ← hn, List.take_length]
     rw [e]
     exact ⟨by rw [← hL]; exact okEs_bl _, by omega, rfl⟩
   have hnL : 0 + n ≤ L.length := by omega
   have hk2 : decide (j < z) = true → j < B.length := fun h => by have := of_decide_eq_true h; omega
   have hgo2 : decide (j < z) = true → 0 ≤ j + 1 ∧ j + 1 ≤ B.length ∧ (B.length - (j + 1)).toNat < (B.length - j).toNat ∧ IntKind.i64.wrap (j + 1) = j + 1 ∧ (j + 1).toNat = j.toNat + 1 ∧ (1 : Int) * ((j.toNat : Nat) : Int) = j := by
     intro h
     have := of_decide_eq_true h
     exact ⟨by omega, by omega, by omega, wrap_in (by omega), by omega, by omega⟩
   have hend2 : decide (j < z) = false → bl bits = L := by
     intro h
     have := of_decide_eq_false h
     rw [← hL, ← hbits, show j.toNat = B.length by omega, List.take_length]
   have hO3 : ∀ {y L2 L4 : List (List PV)} {m2 m4 : Nat}, List.take n (List.drop 0 L) = y → decide (j < z) = false → Lh ++ [[PV.int .u8 1]] = L2 → Lh.length + [[PV.int .u8 1]].length = m2 → L2 ++ y = L4 → L2.length + y.length = m4 → OwnB 40000000 ([kb, ab] ++ byW 4 zu ++ [1] ++ bits) L4 m4 := by
     intro y L2 L4 m2 m4 e1 e2 e3 e4 e5 e6
     have o := hO0 hLh e3 e4 h1c
     have hb := hend2 e2
     refine .mk' ?_ (by rw [← e5, List.length_append]; exact e6) ?_
     · rw [← e5, (hdrop e1).2.2, ← hb, ← o.e]; exact List.map_append
     · have h5 := o.blen
       have h6 := o.le
       have h7 : bits.length = L.length := by rw [← hb, List.length_map]
       rw [List.length_append]; omega
   repeat' (first
     | (have hz0 := hix0 (by assumption) (by assumption); subst hz0)
     | (with_reducible refine Nm.mk ?_; intro z hz)
     | (with_reducible refine IfB.mk ?_ ?_ <;> (intro h; cases h))
     | (with_reducible refine Two.l ?_; refine Asm.mk ?_ ?_; focus (decide +kernel))
     | (with_reducible refine Two.r ?_)
     | (with_reducible refine TwoT.r ?_)
     | (with_reducible refine TwoU.r ?_)
     | (with_reducible refine Asm.mk ?_ ?_; focus (first | exact hU8 (by assumption) | exact hix1 (by assumption) | exact ⟨rfl, rfl, hnL⟩ | exact (OwnB.mk' (N := 100000000) (by assumption) (by assumption) hLhl).side (by decide) rfl (Nat.le_of_ble_eq_true rfl) | exact ((hO0 hLh (by assumption) (by assumption) h1c).mono (by decide : 1000 ≤ 100000000)).side (by decide) (hdrop (by assumption)).1 (hdrop (by assumption)).2.1 | (show (_ : Bool) = true; kernel_rfl)))
     | (with_reducible refine Ix.map h1 (fun _ => rfl) (by decide) hj0 (hk2 (by assumption)) ?_; intro x hx)
     | (with_reducible refine isCC hcc ?_; refine putCC hcc 3 4 (by decide) _ 1 j (by decide) g _ hA8 hj2 hL hn rfl rfl rfl ?_; intro g' L' n' a' hL' hn' ha')
     | (with_reducible refine isCC hcc ?_; refine runsCC hcc 2 hC' hl _ rfl ((hO3 (by assumption) (by assumption) (by assumption) (by assumption) (by assumption) (by assumption)).mono (by decide)) rfl ?_; intro Lr mr hLr hmr)
     | (with_reducible refine Asm.mk2 ?_ ?_)
     | ((fail_if_success (with_reducible first | refine hQ _ ?_ | refine Side.mk ?_ | refine isCP hcp ?_ | refine isCC hcc ?_ | refine isLP hlp ?_ | refine Ix.mk ?_ | refine SIx.mk ?_ | refine SEx.mk ?_ | refine EIx.mk ?_ | refine RIx.mk ?_ | refine LkX.mk ?_ | show False | refine hR ?_ _ ?_ ?_ ?_ ?_ ?_ | refine hR2 ?_ _ ?_ ?_ ?_ ?_ ?_)); cbv))
   · rename_i hjz
     obtain ⟨g1, g2, g3, g4, g5, g6⟩ := hgo2 (by assumption)
     rw [g4] at hz
     subst hz
     subst ha'
     refine hR2 (j + 1, g', L', n') _ ⟨g1, g2, ?_, hn'⟩ g3 ⟨rfl, trivial⟩ ⟨rfl, rfl, rfl, rfl, rfl, rfl, trivial⟩ rfl
     show bl (bitsB 1 ((B.take (j + 1).toNat).map fun b => if b then (1 : Int) else 0)) = L'
     rw [g5, bitsB_succ hx, g6, ← hL']; rfl
   · rename_i hjz
     obtain ⟨g1, g2, g3, g4, g5, g6⟩ := hgo2 (by assumption)
     rw [g4] at hz
     subst hz
     subst ha'
     refine hR2 (j + 1, g', L', n') _ ⟨g1, g2, ?_, hn'⟩ g3 ⟨rfl, trivial⟩ ⟨rfl, rfl, rfl, rfl, rfl, rfl, trivial⟩ rfl
     show bl (bitsB 1 ((B.take (j + 1).toNat).map fun b => if b then (1 : Int) else 0)) = L'
     rw [g5, bitsB_succ hx, g6, ← hL']; rfl
   · refine hQ _ ?_
     rw [hh, ← hz, ← hLr, strOf_bytes]
end Go.Proofs.Ytcajncmjlmpkgaa

namespace Go.Proofs.Ytcajncmjlmpkgaa
open Go Go.RowKit
set_option maxRecDepth 100000
set_option linter.unusedSimpArgs false
set_option linter.unusedVariables false
set_option maxHeartbeats 400000 in
theorem write3_c (a : Int) (B : List Bool) (N : List Int) (S : List ByteArray) (n1 n2 n3 : List (List PV)) (h1 : B.map boolc = n1) (h2 : N.map i64c = n2) (h3 : S.map strc = n3) (hg : goodV ⟨a, B, N, S⟩ = true) (hB : B.length ≤ 4096) (hl : Few (stand (valuesM ⟨a, B, N, S⟩))) (hvl : (valuesM ⟨a, B, N, S⟩).length ≤ 4096) (hcl : Clean (stand (valuesM ⟨a, B, N, S⟩))) :
   PCall Try.prog 7 [.agg [.int .i64 a, .sl n1, .sl n2, .sl n3], .int .i64 3] fun r => r = [.str (toB (headB 3 ⟨a, B, N, S⟩ ++ wordsB (stand (valuesM ⟨a, B, N, S⟩)))), .int .i64 0] := by
 have b1 : n1.length = B.length := by rw [← h1]; simp
 have hm1 := @markB_all ⟨a, B, N, S⟩
 have hm2 := @markB_some ⟨a, B, N, S⟩
 have hhB : headB 3 ⟨a, B, N, S⟩ = [byO 3, byO a] ++ byW 4 (u64 (valuesM ⟨a, B, N, S⟩).length) ++ markB ⟨a, B, N, S⟩ := rfl
 obtain ⟨hd, hhd⟩ : ∃ hd, headB 3 ⟨a, B, N, S⟩ = hd := ⟨_, rfl⟩
 obtain ⟨mk, hmk⟩ : ∃ mk, markB ⟨a, B, N, S⟩ = mk := ⟨_, rfl⟩
 rw [hhd] at hhB ⊢
 rw [hmk] at hhB hm1 hm2
 have hgc := good_c a B N S n1 n2 n3 h1 h2 h3
 rw [hg] at hgc
 have hvc := vvalues_c a B N S n1 n2 n3 h1 h2 h3 (by omega)
 obtain ⟨vs, hvs⟩ : ∃ vs, valuesM ⟨a, B, N, S⟩ = vs := ⟨_, rfl⟩
 obtain ⟨C, hC⟩ : ∃ C, vs.map Val.cells = C := ⟨_, rfl⟩
 rw [hvs] at hl hvl hm1 hm2 hhB hcl ⊢
 rw [hvs, hC] at hvc
 obtain ⟨bits, hbits⟩ : ∃ bits, bitsB 1 (B.map fun b => if b then (1 : Int) else 0) = bits := ⟨_, rfl⟩
 rw [hbits] at hm2
 clear hmk hhd hg hvs
 obtain ⟨nC, hnC⟩ : ∃ nC, C.length = nC := ⟨_, rfl⟩
 have hnv : nC = vs.length := by rw [← hnC, ← hC, List.length_map]
 have hvl2 : vs.length ≤ 2000000 := by omega
 have hnC2 : nC ≤ 2000000 := by omega
 have hpos : ∀ {x m : Int}, IntKind.u64.wrap x = m → 0 ≤ m := fun h => h ▸ u64_pos _
 have htwo : ∀ {z1 z2 : Int}, IntKind.u8.wrap 3 = z1 → IntKind.u8.wrap a = z2 → bl [byO 3, byO a] = [[PV.int .u8 z1], [PV.int .u8 z2]] := by
   rintro z1 z2 rfl rfl
   show [byteC (byO 3), byteC (byO a)] = _
   rw [byO_c, byO_c]
 generalize byO 3 = kb at *
 generalize byO a = ab at *
 have hx1 : ∀ {p : Prop}, decide ((3 : Int) < 1) = true → p := fun h => absurd h (by decide)
 have hx2 : ∀ {p : Prop}, decide ((4 : Int) < 3) = true → p := fun h => absurd h (by decide)
 have hx3 : ¬ decide ((3 : Int) = 4) = true := by decide
 have hx4 : ∀ {p : Prop} {z : Bool}, (!z) = true → true = z → p := by rintro p z h rfl; cases h
 have hx5 : ∀ {p : Prop} {z : Int}, decide (4096 < z) = true → (n1.length : Int) = z → p := by
   intro p z h h2
   have := of_decide_eq_true h
   omega
 have hix0 : ∀ {z1 : Int} {z : Nat}, 0 + z1.toNat * 1 = z → IntKind.i64.wrap (3 - 1) = z1 → z = 3 - 1 := by rintro z1 z rfl rfl; decide
 have hix1 : ∀ {z : Int}, IntKind.i64.wrap (3 - 1) = z → 0 ≤ z ∧ z < ((4 : Nat) : Int) ∧ ¬ (1 : Nat) = 0 := by rintro z rfl; decide
 have hU8 : ∀ {b : List UInt8} {L : List (List PV)}, bl b = L → isU8s L = true := by rintro b L rfl; exact isU8s_bytes b
 have hLhl : ∀ {z : Int}, ([kb, ab] ++ byW 4 z).length ≤ 100000000 := by
   intro z; rw [List.length_append, byW_len]; show 2 + 4 ≤ _; omega
 have hO0 : ∀ {c : UInt8} {d z5 : Int} {Lh L2 : List (List PV)} {m2 : Nat}, bl ([kb, ab] ++ byW 4 z5) = Lh → Lh ++ [[PV.int .u8 d]] = L2 → Lh.length + [[PV.int .u8 d]].length = m2 → (c.toNat : Int) = d → OwnB 1000 ([kb, ab] ++ byW 4 z5 ++ [c]) L2 m2 := by
   rintro c d z5 Lh L2 m2 rfl rfl rfl rfl
   refine .mk' (List.map_append) (by rw [List.length_append]) ?_
   rw [List.length_append, List.length_append, byW_len]; show 2 + 4 + 1 ≤ _; omega
 have hhd : ∀ {z3 z5 : Int}, (C.length : Int) = z3 → IntKind.u64.wrap z3 = z5 → z5 = u64 vs.length := by
   rintro z3 z5 rfl rfl; rw [hnC, hnv]; rfl
 have hst1 : ∀ {C' : List (List PV)} {p q z3 z5 : Int}, (stand vs).map Val.cells = C' → (C'.length : Int) = p → (C.length : Int) = q → decide (p = q) = true → (C.length : Int) = z3 → IntKind.u64.wrap z3 = z5 → hd = [kb, ab] ++ byW 4 z5 ++ [0] := by
   intro C' p q z3 z5 e1 e2 e3 e4 e5 e6
   have := of_decide_eq_true e4
   have hcl : C'.length = (stand vs).length := by rw [← e1, List.length_map]
   rw [hhB, hm1 (by omega), hhd e5 e6]
 have hst0 : ∀ {C' : List (List PV)} {p q z3 z5 : Int}, (stand vs).map Val.cells = C' → (C'.length : Int) = p → (C.length : Int) = q → decide (p = q) = false → (C.length : Int) = z3 → IntKind.u64.wrap z3 = z5 → hd = [kb, ab] ++ byW 4 z5 ++ [1] ++ bits := by
   intro C' p q z3 z5 e1 e2 e3 e4 e5 e6
   have := of_decide_eq_false e4
   have hcl : C'.length = (stand vs).length := by rw [← e1, List.length_map]
   rw [hhB, hm2 (by omega), hhd e5 e6, ← List.append_assoc]
 have h0c : (((0 : UInt8).toNat : Nat) : Int) = 0 := rfl
 have h1c : (((1 : UInt8).toNat : Nat) : Int) = 1 := rfl
 refine PCall.x (nt := ⟨87, []⟩) (res := [.tmp 4, .tmp 5]) mixed tt_ok [] Try.func7 rfl rfl rfl c7 (Nat.le_of_ble_eq_true rfl) ?_
 intro cp cc lp Q' hcp hcc hlp hQ
 repeat' (first
   | (with_reducible exact absurd (by assumption) hx3)
   | (have hz0 := hix0 (by assumption) (by assumption); subst hz0)
   | (with_reducible refine Nm.mk ?_; intro z hz)
   | (with_reducible refine IfB.mk ?_ ?_ <;> (intro h; cases h))
   | (with_reducible refine Two.l ?_; refine Asm.mk ?_ ?_; focus (decide +kernel))
   | (with_reducible refine Two.r ?_)
   | (with_reducible refine TwoT.r ?_)
   | (with_reducible refine TwoU.r ?_)
   | (with_reducible refine Asm.mk ?_ ?_; focus (first | exact hU8 (by assumption) | exact hix1 (by assumption) | exact (OwnB.mk' (N := 100000000) (by assumption) (by assumption) hLhl).side (by decide) rfl (Nat.le_of_ble_eq_true rfl) | (show (_ : Bool) = true; kernel_rfl)))
   | (with_reducible refine isCP hcp ?_; first | (refine bP hcp (hgc) ?_; intro z hz) | (refine eP hcp (hvc) ?_; rintro r rfl))
   | (with_reducible refine isCC hcc ?_; first | (refine bA hcc (hgc) rfl ?_; intro z hz) | (refine bR hcc (hgc) rfl ?_; intro z hz) | (refine eA hcc (hvc) rfl ?_; rintro r rfl))
   | (with_reducible refine isCC hcc ?_; refine wordsCC hcc 2 hC' hl hcl _ rfl ((hO0 (by assumption) (by assumption) (by assumption) h0c).mono (by decide)) rfl ?_; intro Lr mr hLr hmr)
   | (with_reducible refine isCC hcc ?_; refine cloneVCC hcc rfl hC hvl2 hnC ?_)
   | (with_reducible refine isCC hcc ?_; refine deleteVCC hcc 1 0 nC vs rfl rfl hC hnC hnC2 ?_; intro C' hC')
   | (with_reducible refine isCC hcc ?_; refine mintArgCC hcc 1 rfl ?_; refine putWCC hcc 2 4 [kb, ab] rfl (hpos (by assumption)) (by decide) (htwo (by assumption) (by assumption)) rfl (Nat.le_of_ble_eq_true rfl) rfl ?_; intro Lh mh hLh hmh)
   | (with_reducible refine Asm.mk2 ?_ ?_)
   | ((fail_if_success (with_reducible first | refine hQ _ ?_ | refine Side.mk ?_ | refine isCP hcp ?_ | refine isCC hcc ?_ | refine isLP hlp ?_ | refine Ix.mk ?_ | refine SIx.mk ?_ | refine SEx.mk ?_ | refine EIx.mk ?_ | refine RIx.mk ?_ | refine LkX.mk ?_ | show False | refine hR ?_ _ ?_ ?_ ?_ ?_ ?_ | refine hR2 ?_ _ ?_ ?_ ?_ ?_ ?_)); cbv))
 all_goals first | exact hx1 (by assumption) | exact hx2 (by assumption) | exact hx4 (by assumption) (by assumption) | exact hx5 (by assumption) (by assumption) | skip
 · rename_i zc hzc zu hzu zp hzp zq hzq hpq zL hzL zm hzm zi hzi hzi2
   have hh := hst1 hC' hzp hzq hpq hzc hzu
   refine hQ _ ?_
   rw [hh, ← hz, ← hLr, strOf_bytes]
 · rename_i zc hzc zu hzu zp hzp zq hzq hpq
   have hzl : z = (B.length : Int) := by rw [← hz, ← b1]
   clear hz
   have hh := hst0 hC' hzp hzq hpq hzc hzu
   refine mintVX hlp 1 3 0 rfl rfl ?_
   refine loopT (ι := Int × Nat × List (List PV) × Nat) mixed tt_ok hcp hcc hlp [1, 7, 8, 9, 62, 63] (fun p => [(64, .p (.int .i64 p.1))]) (fun p => [.cells [.p (.int .i64 a), .p (.sl n1), .p (.sl n2), .p (.sl n3)], .gone, .spare mh 1, .cells [.vec 4 p.2.1 1 0 p.2.2.2, .p (.int .i64 p.1)], .vec p.2.1 p.2.2.1 1]) (fun p => 0 ≤ p.1 ∧ p.1 ≤ B.length ∧ bl (bitsB 1 ((B.take p.1.toNat).map fun b => if b then (1 : Int) else 0)) = p.2.2.1 ∧ p.2.2.1.length = p.2.2.2) (fun p => (B.length - p.1).toNat) (0, 0, [], 0) 5 (fun _ => rfl) ⟨Int.le_refl _, by show (0 : Int) ≤ _; omega, rfl, rfl⟩ ⟨rfl, trivial⟩ rfl ?_
   rintro R2 ⟨j, g, L, n⟩ ⟨hj0, hj1, hL, hn⟩ hR2
   replace hj0 : 0 ≤ j := hj0
   replace hj1 : j ≤ B.length := hj1
   replace hL : bl (bitsB 1 ((B.take j.toNat).map fun b => if b then (1 : Int) else 0)) = L := hL
   replace hn : L.length = n := hn
   have hA8 : At8 j (bitsB 1 ((B.take j.toNat).map fun b => if b then (1 : Int) else 0)) := by
     have := bitsB_at (W := 1) (by decide) ((B.take j.toNat).map fun b => if b then (1 : Int) else 0)
     rw [List.length_map, List.length_take, show (1 : Int) * ((min j.toNat B.length : Nat) : Int) = j by omega] at this
     exact this
   have hj2 : j ≤ 1000000000 := by omega
   have hLlen : L.length ≤ 100000 := by
     have := hA8.2
     rw [← hL, List.length_map]; omega
   have hdrop : ∀ {y : List (List PV)}, List.take n (List.drop 0 L) = y → okEs 1 y = true ∧ y.length ≤ 1000000000 ∧ y = L := by
     rintro y rfl
     have e : List.take n (List.drop 0 L) = L := by rw [List.drop_zero, ← hn, List.take_length]
     rw [e]
     exact ⟨by rw [← hL]; exact okEs_bl _, by omega, rfl⟩
   have hnL : 0 + n ≤ L.length := by omega
   have hk2 : decide (j < z) = true → j < B.length := fun h => by have := of_decide_eq_true h; omega
   have hgo2 : decide (j < z) = true → 0 ≤ j + 1 ∧ j + 1 ≤ B.length ∧ (B.length - (j + 1)).toNat < (B.length - j).toNat ∧ IntKind.i64.wrap (j + 1) = j + 1 ∧ (j + 1).toNat = j.toNat + 1 ∧ (1 : Int) * ((j.toNat : Nat) : Int) = j := by
     intro h
     have := of_decide_eq_true h
     exact ⟨by omega, by omega, by omega, wrap_in (by omega), by omega, by omega⟩
   have hend2 : decide (j < z) = false → bl bits = L := by
     intro h
     have := of_decide_eq_false h
     rw [← hL, ← hbits, show j.toNat = B.length by omega, List.take_length]
   have hO3 : ∀ {y L2 L4 : List (List PV)} {m2 m4 : Nat}, List.take n (List.drop 0 L) = y → decide (j < z) = false → Lh ++ [[PV.int .u8 1]] = L2 → Lh.length + [[PV.int .u8 1]].length = m2 → L2 ++ y = L4 → L2.length + y.length = m4 → OwnB 40000000 ([kb, ab] ++ byW 4 zu ++ [1] ++ bits) L4 m4 := by
     intro y L2 L4 m2 m4 e1 e2 e3 e4 e5 e6
     have o := hO0 hLh e3 e4 h1c
     have hb := hend2 e2
     refine .mk' ?_ (by rw [← e5, List.length_append]; exact e6) ?_
     · rw [← e5, (hdrop e1).2.2, ← hb, ← o.e]; exact List.map_append
     · have h5 := o.blen
       have h6 := o.le
       have h7 : bits.length = L.length := by rw [← hb, List.length_map]
       rw [List.length_append]; omega
   repeat' (first
     | (have hz0 := hix0 (by assumption) (by assumption); subst hz0)
     | (with_reducible refine Nm.mk ?_; intro z hz)
     | (with_reducible refine IfB.mk ?_ ?_ <;> (intro h; cases h))
     | (with_reducible refine Two.l ?_; refine Asm.mk ?_ ?_; focus (decide +kernel))
     | (with_reducible refine Two.r ?_)
     | (with_reducible refine TwoT.r ?_)
     | (with_reducible refine TwoU.r ?_)
     | (with_reducible refine Asm.mk ?_ ?_; focus (first | exact hU8 (by assumption) | exact hix1 (by assumption) | exact ⟨rfl, rfl, hnL⟩ | exact (OwnB.mk' (N := 100000000) (by assumption) (by assumption) hLhl).side (by decide) rfl (Nat.le_of_ble_eq_true rfl) | exact ((hO0 hLh (by assumption) (by assumption) h1c).mono (by decide : 1000 ≤ 100000000)).side (by decide) (hdrop (by assumption)).1 (hdrop (by assumption)).2.1 | (show (_ : Bool) = true; kernel_rfl)))
     | (with_reducible refine Ix.map h1 (fun _ => rfl) (by decide) hj0 (hk2 (by assumption)) ?_; intro x hx)
     | (with_reducible refine isCC hcc ?_; refine putCC hcc 3 4 (by decide) _ 1 j (by decide) g _ hA8 hj2 hL hn rfl rfl rfl ?_; intro g' L' n' a' hL' hn' ha')
     | (with_reducible refine isCC hcc ?_; refine wordsCC hcc 2 hC' hl hcl _ rfl ((hO3 (by assumption) (by assumption) (by assumption) (by assumption) (by assumption) (by assumption)).mono (by decide)) rfl ?_; intro Lr mr hLr hmr)
     | (with_reducible refine Asm.mk2 ?_ ?_)
     | ((fail_if_success (with_reducible first | refine hQ _ ?_ | refine Side.mk ?_ | refine isCP hcp ?_ | refine isCC hcc ?_ | refine isLP hlp ?_ | refine Ix.mk ?_ | refine SIx.mk ?_ | refine SEx.mk ?_ | refine EIx.mk ?_ | refine RIx.mk ?_ | refine LkX.mk ?_ | show False | refine hR ?_ _ ?_ ?_ ?_ ?_ ?_ | refine hR2 ?_ _ ?_ ?_ ?_ ?_ ?_)); cbv))
   · rename_i hjz
     obtain ⟨g1, g2, g3, g4, g5, g6⟩ := hgo2 (by assumption)
     rw [g4] at hz
     subst hz
     subst ha'
     refine hR2 (j + 1, g', L', n') _ ⟨g1, g2, ?_, hn'⟩ g3 ⟨rfl, trivial⟩ ⟨rfl, rfl, rfl, rfl, rfl, rfl, trivial⟩ rfl
     show bl (bitsB 1 ((B.take (j + 1).toNat).map fun b => if b then (1 : Int) else 0)) = L'
     rw [g5, bitsB_succ hx, g6, ← hL']; rfl
   · rename_i hjz
     obtain ⟨g1, g2, g3, g4, g5, g6⟩ := hgo2 (by assumption)
     rw [g4] at hz
     subst hz
     subst ha'
     refine hR2 (j + 1, g', L', n') _ ⟨g1, g2, ?_, hn'⟩ g3 ⟨rfl, trivial⟩ ⟨rfl, rfl, rfl, rfl, rfl, rfl, trivial⟩ rfl
     show bl (bitsB 1 ((B.take (j + 1).toNat).map fun b => if b then (1 : Int) else 0)) = L'
     rw [g5, bitsB_succ hx, g6, ← hL']; rfl
   · refine hQ _ ?_
     rw [hh, ← hz, ← hLr, strOf_bytes]
end Go.Proofs.Ytcajncmjlmpkgaa

namespace Go.Proofs.Ytcajncmjlmpkgaa
open Go Go.RowKit
set_option maxRecDepth 100000
set_option linter.unusedSimpArgs false
set_option linter.unusedVariables false
set_option maxHeartbeats 400000 in
theorem write4_c (a : Int) (B : List Bool) (N : List Int) (S : List ByteArray) (n1 n2 n3 : List (List PV)) (h1 : B.map boolc = n1) (h2 : N.map i64c = n2) (h3 : S.map strc = n3) (hg : goodV ⟨a, B, N, S⟩ = true) (hB : B.length ≤ 4096) (hl : Few (stand (valuesM ⟨a, B, N, S⟩))) (hvl : (valuesM ⟨a, B, N, S⟩).length ≤ 4096) (ha1 : a = 1) :
   PCall Try.prog 7 [.agg [.int .i64 a, .sl n1, .sl n2, .sl n3], .int .i64 4] fun r => r = [.str (toB (headB 4 ⟨a, B, N, S⟩ ++ offsB (stand (valuesM ⟨a, B, N, S⟩)))), .int .i64 0] := by
 have b1 : n1.length = B.length := by rw [← h1]; simp
 have hm1 := @markB_all ⟨a, B, N, S⟩
 have hm2 := @markB_some ⟨a, B, N, S⟩
 have hhB : headB 4 ⟨a, B, N, S⟩ = [byO 4, byO a] ++ byW 4 (u64 (valuesM ⟨a, B, N, S⟩).length) ++ markB ⟨a, B, N, S⟩ := rfl
 obtain ⟨hd, hhd⟩ : ∃ hd, headB 4 ⟨a, B, N, S⟩ = hd := ⟨_, rfl⟩
 obtain ⟨mk, hmk⟩ : ∃ mk, markB ⟨a, B, N, S⟩ = mk := ⟨_, rfl⟩
 rw [hhd] at hhB ⊢
 rw [hmk] at hhB hm1 hm2
 have hgc := good_c a B N S n1 n2 n3 h1 h2 h3
 rw [hg] at hgc
 have hvc := vvalues_c a B N S n1 n2 n3 h1 h2 h3 (by omega)
 obtain ⟨vs, hvs⟩ : ∃ vs, valuesM ⟨a, B, N, S⟩ = vs := ⟨_, rfl⟩
 obtain ⟨C, hC⟩ : ∃ C, vs.map Val.cells = C := ⟨_, rfl⟩
 rw [hvs] at hl hvl hm1 hm2 hhB ⊢
 rw [hvs, hC] at hvc
 obtain ⟨bits, hbits⟩ : ∃ bits, bitsB 1 (B.map fun b => if b then (1 : Int) else 0) = bits := ⟨_, rfl⟩
 rw [hbits] at hm2
 clear hmk hhd hg hvs
 obtain ⟨nC, hnC⟩ : ∃ nC, C.length = nC := ⟨_, rfl⟩
 have hnv : nC = vs.length := by rw [← hnC, ← hC, List.length_map]
 have hvl2 : vs.length ≤ 2000000 := by omega
 have hnC2 : nC ≤ 2000000 := by omega
 have hpos : ∀ {x m : Int}, IntKind.u64.wrap x = m → 0 ≤ m := fun h => h ▸ u64_pos _
 have htwo : ∀ {z1 z2 : Int}, IntKind.u8.wrap 4 = z1 → IntKind.u8.wrap a = z2 → bl [byO 4, byO a] = [[PV.int .u8 z1], [PV.int .u8 z2]] := by
   rintro z1 z2 rfl rfl
   show [byteC (byO 4), byteC (byO a)] = _
   rw [byO_c, byO_c]
 generalize byO 4 = kb at *
 generalize byO a = ab at *
 have hx1 : ∀ {p : Prop}, decide ((4 : Int) < 1) = true → p := fun h => absurd h (by decide)
 have hx2 : ∀ {p : Prop}, decide ((4 : Int) < 4) = true → p := fun h => absurd h (by decide)
 have hx3 : ¬ decide ((4 : Int) = 4) = false := by decide
 have hx6 : ∀ {p : Prop}, decide (a = 2) = true → p := fun h => absurd (of_decide_eq_true h) (by omega)
 have hx4 : ∀ {p : Prop} {z : Bool}, (!z) = true → true = z → p := by rintro p z h rfl; cases h
 have hx5 : ∀ {p : Prop} {z : Int}, decide (4096 < z) = true → (n1.length : Int) = z → p := by
   intro p z h h2
   have := of_decide_eq_true h
   omega
 have hix0 : ∀ {z1 : Int} {z : Nat}, 0 + z1.toNat * 1 = z → IntKind.i64.wrap (4 - 1) = z1 → z = 4 - 1 := by rintro z1 z rfl rfl; decide
 have hix1 : ∀ {z : Int}, IntKind.i64.wrap (4 - 1) = z → 0 ≤ z ∧ z < ((4 : Nat) : Int) ∧ ¬ (1 : Nat) = 0 := by rintro z rfl; decide
 have hU8 : ∀ {b : List UInt8} {L : List (List PV)}, bl b = L → isU8s L = true := by rintro b L rfl; exact isU8s_bytes b
 have hLhl : ∀ {z : Int}, ([kb, ab] ++ byW 4 z).length ≤ 100000000 := by
   intro z; rw [List.length_append, byW_len]; show 2 + 4 ≤ _; omega
 have hO0 : ∀ {c : UInt8} {d z5 : Int} {Lh L2 : List (List PV)} {m2 : Nat}, bl ([kb, ab] ++ byW 4 z5) = Lh → Lh ++ [[PV.int .u8 d]] = L2 → Lh.length + [[PV.int .u8 d]].length = m2 → (c.toNat : Int) = d → OwnB 1000 ([kb, ab] ++ byW 4 z5 ++ [c]) L2 m2 := by
   rintro c d z5 Lh L2 m2 rfl rfl rfl rfl
   refine .mk' (List.map_append) (by rw [List.length_append]) ?_
   rw [List.length_append, List.length_append, byW_len]; show 2 + 4 + 1 ≤ _; omega
 have hhd : ∀ {z3 z5 : Int}, (C.length : Int) = z3 → IntKind.u64.wrap z3 = z5 → z5 = u64 vs.length := by
   rintro z3 z5 rfl rfl; rw [hnC, hnv]; rfl
 have hst1 : ∀ {C' : List (List PV)} {p q z3 z5 : Int}, (stand vs).map Val.cells = C' → (C'.length : Int) = p → (C.length : Int) = q → decide (p = q) = true → (C.length : Int) = z3 → IntKind.u64.wrap z3 = z5 → hd = [kb, ab] ++ byW 4 z5 ++ [0] := by
   intro C' p q z3 z5 e1 e2 e3 e4 e5 e6
   have := of_decide_eq_true e4
   have hcl : C'.length = (stand vs).length := by rw [← e1, List.length_map]
   rw [hhB, hm1 (by omega), hhd e5 e6]
 have hst0 : ∀ {C' : List (List PV)} {p q z3 z5 : Int}, (stand vs).map Val.cells = C' → (C'.length : Int) = p → (C.length : Int) = q → decide (p = q) = false → (C.length : Int) = z3 → IntKind.u64.wrap z3 = z5 → hd = [kb, ab] ++ byW 4 z5 ++ [1] ++ bits := by
   intro C' p q z3 z5 e1 e2 e3 e4 e5 e6
   have := of_decide_eq_false e4
   have hcl : C'.length = (stand vs).length := by rw [← e1, List.length_map]
   rw [hhB, hm2 (by omega), hhd e5 e6, ← List.append_assoc]
 have h0c : (((0 : UInt8).toNat : Nat) : Int) = 0 := rfl
 have h1c : (((1 : UInt8).toNat : Nat) : Int) = 1 := rfl
 refine PCall.x (nt := ⟨87, []⟩) (res := [.tmp 4, .tmp 5]) mixed tt_ok [] Try.func7 rfl rfl rfl c7 (Nat.le_of_ble_eq_true rfl) ?_
 intro cp cc lp Q' hcp hcc hlp hQ
 repeat' (first
   | (with_reducible exact absurd (by assumption) hx3)
   | (have hz0 := hix0 (by assumption) (by assumption); subst hz0)
   | (with_reducible refine Nm.mk ?_; intro z hz)
   | (with_reducible refine IfB.mk ?_ ?_ <;> (intro h; cases h))
   | (with_reducible refine Two.l ?_; refine Asm.mk ?_ ?_; focus (decide +kernel))
   | (with_reducible refine Two.r ?_)
   | (with_reducible refine TwoT.r ?_)
   | (with_reducible refine TwoU.r ?_)
   | (with_reducible refine Asm.mk ?_ ?_; focus (first | exact hU8 (by assumption) | exact hix1 (by assumption) | exact (OwnB.mk' (N := 100000000) (by assumption) (by assumption) hLhl).side (by decide) rfl (Nat.le_of_ble_eq_true rfl) | (show (_ : Bool) = true; kernel_rfl)))
   | (with_reducible refine isCP hcp ?_; first | (refine bP hcp (hgc) ?_; intro z hz) | (refine eP hcp (hvc) ?_; rintro r rfl))
   | (with_reducible refine isCC hcc ?_; first | (refine bA hcc (hgc) rfl ?_; intro z hz) | (refine bR hcc (hgc) rfl ?_; intro z hz) | (refine eA hcc (hvc) rfl ?_; rintro r rfl))
   | (with_reducible refine isCC hcc ?_; refine offsCC hcc 2 hC' hl _ rfl ((hO0 (by assumption) (by assumption) (by assumption) h0c).mono (by decide)) rfl ?_; intro Lr mr hLr hmr)
   | (with_reducible refine isCC hcc ?_; refine cloneVCC hcc rfl hC hvl2 hnC ?_)
   | (with_reducible refine isCC hcc ?_; refine deleteVCC hcc 1 0 nC vs rfl rfl hC hnC hnC2 ?_; intro C' hC')
   | (with_reducible refine isCC hcc ?_; refine mintArgCC hcc 1 rfl ?_; refine putWCC hcc 2 4 [kb, ab] rfl (hpos (by assumption)) (by decide) (htwo (by assumption) (by assumption)) rfl (Nat.le_of_ble_eq_true rfl) rfl ?_; intro Lh mh hLh hmh)
   | (with_reducible refine Asm.mk2 ?_ ?_)
   | ((fail_if_success (with_reducible first | refine hQ _ ?_ | refine Side.mk ?_ | refine isCP hcp ?_ | refine isCC hcc ?_ | refine isLP hlp ?_ | refine Ix.mk ?_ | refine SIx.mk ?_ | refine SEx.mk ?_ | refine EIx.mk ?_ | refine RIx.mk ?_ | refine LkX.mk ?_ | show False | refine hR ?_ _ ?_ ?_ ?_ ?_ ?_ | refine hR2 ?_ _ ?_ ?_ ?_ ?_ ?_)); cbv))
 all_goals first | exact hx1 (by assumption) | exact hx2 (by assumption) | exact hx4 (by assumption) (by assumption) | exact hx5 (by assumption) (by assumption) | exact hx6 (by assumption) | skip
 · rename_i zc hzc zu hzu zp hzp zq hzq hpq zL hzL zm hzm zi hzi hzi2
   have hh := hst1 hC' hzp hzq hpq hzc hzu
   refine hQ _ ?_
   rw [hh, ← hz, ← hLr, strOf_bytes]
 · rename_i zc hzc zu hzu zp hzp zq hzq hpq
   have hzl : z = (B.length : Int) := by rw [← hz, ← b1]
   clear hz
   have hh := hst0 hC' hzp hzq hpq hzc hzu
   refine mintVX hlp 1 3 0 rfl rfl ?_
   refine loopT (ι := Int × Nat × List (List PV) × Nat) mixed tt_ok hcp hcc hlp [1, 7, 8, 9, 62, 63] (fun p => [(64, .p (.int .i64 p.1))]) (fun p => [.cells [.p (.int .i64 a), .p (.sl n1), .p (.sl n2), .p (.sl n3)], .gone, .spare mh 1, .cells [.vec 4 p.2.1 1 0 p.2.2.2, .p (.int .i64 p.1)], .vec p.2.1 p.2.2.1 1]) (fun p => 0 ≤ p.1 ∧ p.1 ≤ B.length ∧ bl (bitsB 1 ((B.take p.1.toNat).map fun b => if b then (1 : Int) else 0)) = p.2.2.1 ∧ p.2.2.1.length = p.2.2.2) (fun p => (B.length - p.1).toNat) (0, 0, [], 0) 5 (fun _ => rfl) ⟨Int.le_refl _, by show (0 : Int) ≤ _; omega, rfl, rfl⟩ ⟨rfl, trivial⟩ rfl ?_
   rintro R2 ⟨j, g, L, n⟩ ⟨hj0, hj1, hL, hn⟩ hR2
   replace hj0 : 0 ≤ j := hj0
   replace hj1 : j ≤ B.length := hj1
   replace hL : bl (bitsB 1 ((B.take j.toNat).map fun b => if b then (1 : Int) else 0)) = L := hL
   replace hn : L.length = n := hn
   have hA8 : At8 j (bitsB 1 ((B.take j.toNat).map fun b => if b then (1 : Int) else 0)) := by
     have := bitsB_at (W := 1) (by decide) ((B.take j.toNat).map fun b => if b then (1 : Int) else 0)
     rw [List.length_map, List.length_take, show (1 : Int) * ((min j.toNat B.length : Nat) : Int) = j by omega] at this
     exact this
   have hj2 : j ≤ 1000000000 := by omega
   have hLlen : L.length ≤ 100000 := by
     have := hA8.2
     rw [← hL, List.length_map]; omega
   have hdrop : ∀ {y : List (List PV)}, List.take n (List.drop 0 L) = y → okEs 1 y = true ∧ y.length ≤ 1000000000 ∧ y = L := by
     rintro y rfl
     have e : List.take n (List.drop 0 L) = L := by rw [List.drop_zero, ← hn, List.take_length]
     rw [e]
     exact ⟨by rw [← hL]; exact okEs_bl _, by omega, rfl⟩
   have hnL : 0 + n ≤ L.length := by omega
   have hk2 : decide (j < z) = true → j < B.length := fun h => by have := of_decide_eq_true h; omega
   have hgo2 : decide (j < z) = true → 0 ≤ j + 1 ∧ j + 1 ≤ B.length ∧ (B.length - (j + 1)).toNat < (B.length - j).toNat ∧ IntKind.i64.wrap (j + 1) = j + 1 ∧ (j + 1).toNat = j.toNat + 1 ∧ (1 : Int) * ((j.toNat : Nat) : Int) = j := by
     intro h
     have := of_decide_eq_true h
     exact ⟨by omega, by omega, by omega, wrap_in (by omega), by omega, by omega⟩
   have hend2 : decide (j < z) = false → bl bits = L := by
     intro h
     have := of_decide_eq_false h
     rw [← hL, ← hbits, show j.toNat = B.length by omega, List.take_length]
   have hO3 : ∀ {y L2 L4 : List (List PV)} {m2 m4 : Nat}, List.take n (List.drop 0 L) = y → decide (j < z) = false → Lh ++ [[PV.int .u8 1]] = L2 → Lh.length + [[PV.int .u8 1]].length = m2 → L2 ++ y = L4 → L2.length + y.length = m4 → OwnB 40000000 ([kb, ab] ++ byW 4 zu ++ [1] ++ bits) L4 m4 := by
     intro y L2 L4 m2 m4 e1 e2 e3 e4 e5 e6
     have o := hO0 hLh e3 e4 h1c
     have hb := hend2 e2
     refine .mk' ?_ (by rw [← e5, List.length_append]; exact e6) ?_
     · rw [← e5, (hdrop e1).2.2, ← hb, ← o.e]; exact List.map_append
     · have h5 := o.blen
       have h6 := o.le
       have h7 : bits.length = L.length := by rw [← hb, List.length_map]
       rw [List.length_append]; omega
   repeat' (first
     | (have hz0 := hix0 (by assumption) (by assumption); subst hz0)
     | (with_reducible refine Nm.mk ?_; intro z hz)
     | (with_reducible refine IfB.mk ?_ ?_ <;> (intro h; cases h))
     | (with_reducible refine Two.l ?_; refine Asm.mk ?_ ?_; focus (decide +kernel))
     | (with_reducible refine Two.r ?_)
     | (with_reducible refine TwoT.r ?_)
     | (with_reducible refine TwoU.r ?_)
     | (with_reducible refine Asm.mk ?_ ?_; focus (first | exact hU8 (by assumption) | exact hix1 (by assumption) | exact ⟨rfl, rfl, hnL⟩ | exact (OwnB.mk' (N := 100000000) (by assumption) (by assumption) hLhl).side (by decide) rfl (Nat.le_of_ble_eq_true rfl) | exact ((hO0 hLh (by assumption) (by assumption) h1c).mono (by decide : 1000 ≤ 100000000)).side (by decide) (hdrop (by assumption)).1 (hdrop (by assumption)).2.1 | (show (_ : Bool) = true; kernel_rfl)))
     | (with_reducible refine Ix.map h1 (fun _ => rfl) (by decide) hj0 (hk2 (by assumption)) ?_; intro x hx)
     | (with_reducible refine isCC hcc ?_; refine putCC hcc 3 4 (by decide) _ 1 j (by decide) g _ hA8 hj2 hL hn rfl rfl rfl ?_; intro g' L' n' a' hL' hn' ha')
     | (with_reducible refine isCC hcc ?_; refine offsCC hcc 2 hC' hl _ rfl ((hO3 (by assumption) (by assumption) (by assumption) (by assumption) (by assumption) (by assumption)).mono (by decide)) rfl ?_; intro Lr mr hLr hmr)
     | (with_reducible refine Asm.mk2 ?_ ?_)
     | ((fail_if_success (with_reducible first | refine hQ _ ?_ | refine Side.mk ?_ | refine isCP hcp ?_ | refine isCC hcc ?_ | refine isLP hlp ?_ | refine Ix.mk ?_ | refine SIx.mk ?_ | refine SEx.mk ?_ | refine EIx.mk ?_ | refine RIx.mk ?_ | refine LkX.mk ?_ | show False | refine hR ?_ _ ?_ ?_ ?_ ?_ ?_ | refine hR2 ?_ _ ?_ ?_ ?_ ?_ ?_)); cbv))
   · rename_i hjz
     obtain ⟨g1, g2, g3, g4, g5, g6⟩ := hgo2 (by assumption)
     rw [g4] at hz
     subst hz
     subst ha'
     refine hR2 (j + 1, g', L', n') _ ⟨g1, g2, ?_, hn'⟩ g3 ⟨rfl, trivial⟩ ⟨rfl, rfl, rfl, rfl, rfl, rfl, trivial⟩ rfl
     show bl (bitsB 1 ((B.take (j + 1).toNat).map fun b => if b then (1 : Int) else 0)) = L'
     rw [g5, bitsB_succ hx, g6, ← hL']; rfl
   · rename_i hjz
     obtain ⟨g1, g2, g3, g4, g5, g6⟩ := hgo2 (by assumption)
     rw [g4] at hz
     subst hz
     subst ha'
     refine hR2 (j + 1, g', L', n') _ ⟨g1, g2, ?_, hn'⟩ g3 ⟨rfl, trivial⟩ ⟨rfl, rfl, rfl, rfl, rfl, rfl, trivial⟩ rfl
     show bl (bitsB 1 ((B.take (j + 1).toNat).map fun b => if b then (1 : Int) else 0)) = L'
     rw [g5, bitsB_succ hx, g6, ← hL']; rfl
   · refine hQ _ ?_
     rw [hh, ← hz, ← hLr, strOf_bytes]
end Go.Proofs.Ytcajncmjlmpkgaa

namespace Go.Proofs.Ytcajncmjlmpkgaa
open Go Go.RowKit
set_option maxRecDepth 100000
set_option linter.unusedSimpArgs false
set_option linter.unusedVariables false
def badW (k : Int) (v : Vec) : Bool := !goodV v || decide (k < 1) || decide (4 < k) || (decide (k = 4) && decide (v.kind = 2))
def errW (k : Int) (v : Vec) : Int := if badW k v = true then 1 else 3
set_option maxHeartbeats 400000 in
theorem writeE_c (k a : Int) (B : List Bool) (N : List Int) (S : List ByteArray) (n1 n2 n3 : List (List PV)) (h1 : B.map boolc = n1) (h2 : N.map i64c = n2) (h3 : S.map strc = n3) (hE : badW k ⟨a, B, N, S⟩ = true ∨ 4096 < B.length) :
   PCall Try.prog 7 [.agg [.int .i64 a, .sl n1, .sl n2, .sl n3], .int .i64 k] fun r => r = [.str ⟨⟨[]⟩⟩, .int .i64 (errW k ⟨a, B, N, S⟩)] := by
 have b1 : n1.length = B.length := by rw [← h1]; simp
 obtain ⟨C, hC⟩ : ∃ C, (valuesM ⟨a, B, N, S⟩).map Val.cells = C := ⟨_, rfl⟩
 obtain ⟨gd, hgd⟩ : ∃ gd, goodV ⟨a, B, N, S⟩ = gd := ⟨_, rfl⟩
 have hgc := good_c a B N S n1 n2 n3 h1 h2 h3
 have hvc : B.length ≤ 4096 → PCall Try.prog 17 [.agg [.int .i64 a, .sl n1, .sl n2, .sl n3]] fun r => r = [.sl C] := by
   intro h
   have := vvalues_c a B N S n1 n2 n3 h1 h2 h3 (by omega)
   rw [hC] at this
   exact this
 rw [hgd] at hgc
 obtain ⟨bd, hbd⟩ : ∃ bd, badW k ⟨a, B, N, S⟩ = bd := ⟨_, rfl⟩
 have hbe : bd = (!gd || decide (k < 1) || decide (4 < k) || (decide (k = 4) && decide (a = 2))) := by rw [← hbd, ← hgd]; rfl
 obtain ⟨ec, hec⟩ : ∃ ec, errW k ⟨a, B, N, S⟩ = ec := ⟨_, rfl⟩
 have hee : ec = if bd = true then 1 else 3 := by rw [← hec, errW, hbd]
 rw [hec]
 rw [hbd] at hE
 clear hgd hbd hec
 have hsm : ∀ {z : Int}, (n1.length : Int) = z → decide (4096 < z) = false → B.length ≤ 4096 := by
   intro z h h'
   have := of_decide_eq_false h'
   omega
 have e1 : ∀ {z : Bool}, gd = z → (!z) = true → ec = 1 := by
   rintro z rfl h; rw [hee, hbe, h]; rfl
 have e2 : decide (k < 1) = true → ec = 1 := by
   intro h; rw [hee, hbe, h]; simp
 have e3 : decide (4 < k) = true → ec = 1 := by
   intro h; rw [hee, hbe, h]; simp
 have e4 : decide (k = 4) = true → decide (a = 2) = true → ec = 1 := by
   intro h h'; rw [hee, hbe, h, h']; simp
 have e5 : ∀ {z : Bool}, gd = z → (!z) = false → decide (k < 1) = false → decide (4 < k) = false → decide (k = 4) = true → decide (a = 2) = false → bd = false := by
   rintro z rfl h1 h2 h3 h4 h5; rw [hbe, h1, h2, h3, h4, h5]; rfl
 have e6 : ∀ {z : Bool}, gd = z → (!z) = false → decide (k < 1) = false → decide (4 < k) = false → decide (k = 4) = false → bd = false := by
   rintro z rfl h1 h2 h3 h4; rw [hbe, h1, h2, h3, h4]; rfl
 have e7 : bd = false → ec = 3 := by rintro rfl; rw [hee]; rfl
 have e8 : bd = false → ∀ {p : Prop} {z : Int}, (n1.length : Int) = z → decide (4096 < z) = false → p := by
   rintro rfl p z h h'
   have := hsm h h'
   rcases hE with h9 | h9
   · cases h9
   · omega
 refine PCall.x (nt := ⟨87, []⟩) (res := [.tmp 4, .tmp 5]) mixed tt_ok [] Try.func7 rfl rfl rfl c7 (Nat.le_of_ble_eq_true rfl) ?_
 intro cp cc lp Q' hcp hcc hlp hQ
 repeat' (first
   | (with_reducible refine Nm.mk ?_; intro z hz)
   | (with_reducible refine IfB.mk ?_ ?_ <;> (intro h; cases h))
   | (with_reducible refine Two.l ?_; refine Asm.mk ?_ ?_; focus (decide +kernel))
   | (with_reducible refine Two.r ?_)
   | (with_reducible refine TwoT.r ?_)
   | (with_reducible refine TwoU.r ?_)
   | (with_reducible refine Asm.mk ?_ ?_; focus (first | (show (_ : Bool) = true; kernel_rfl)))
   | (with_reducible refine isCP hcp ?_; first | (refine bP hcp (hgc) ?_; intro z hz) | (refine eP hcp (hvc (hsm (by assumption) (by assumption))) ?_; rintro r rfl))
   | (with_reducible refine isCC hcc ?_; first | (refine bA hcc (hgc) rfl ?_; intro z hz) | (refine bR hcc (hgc) rfl ?_; intro z hz) | (refine eA hcc (hvc (hsm (by assumption) (by assumption))) rfl ?_; rintro r rfl))
   | (with_reducible refine Asm.mk2 ?_ ?_)
   | ((fail_if_success (with_reducible first | refine hQ _ ?_ | refine Side.mk ?_ | refine isCP hcp ?_ | refine isCC hcc ?_ | refine isLP hlp ?_ | refine Ix.mk ?_ | refine SIx.mk ?_ | refine SEx.mk ?_ | refine EIx.mk ?_ | refine RIx.mk ?_ | refine LkX.mk ?_ | show False | refine hR ?_ _ ?_ ?_ ?_ ?_ ?_ | refine hR2 ?_ _ ?_ ?_ ?_ ?_ ?_)); cbv))
 all_goals first
   | exact e8 (e5 (by assumption) (by assumption) (by assumption) (by assumption) (by assumption) (by assumption)) (by assumption) (by assumption)
   | exact e8 (e6 (by assumption) (by assumption) (by assumption) (by assumption) (by assumption)) (by assumption) (by assumption)
   | exact hQ _ (by rw [e1 (by assumption) (by assumption)])
   | exact hQ _ (by rw [e2 (by assumption)])
   | exact hQ _ (by rw [e3 (by assumption)])
   | exact hQ _ (by rw [e4 (by assumption) (by assumption)])
   | exact hQ _ (by rw [e7 (e5 (by assumption) (by assumption) (by assumption) (by assumption) (by assumption) (by assumption))])
   | exact hQ _ (by rw [e7 (e6 (by assumption) (by assumption) (by assumption) (by assumption) (by assumption))])
end Go.Proofs.Ytcajncmjlmpkgaa

namespace Go.Proofs.Ytcajncmjlmpkgaa
open Go Go.RowKit
set_option maxRecDepth 100000
set_option linter.unusedSimpArgs false
set_option linter.unusedVariables false
theorem allUp_atW {f : Nat → Bool} : ∀ {n i : Nat}, allUp f n = true → i < n → f i = true
 | n + 1, i, h, hi => by
   simp only [allUp, Bool.and_eq_true] at h
   rcases Nat.lt_or_ge i n with g | g
   · exact allUp_atW h.1 g
   · rw [show i = n by omega]; exact h.2
theorem good_kindW {v : Vec} (h : goodV v = true) : v.kind = 1 ∨ v.kind = 2 := by
 unfold goodV at h
 split at h
 · exact .inl (by assumption)
 · split at h
   · exact .inr (by assumption)
   · cases h
theorem values_len (v : Vec) : (valuesM v).length ≤ v.null.length := by unfold valuesM; split <;> simp
theorem values_ok {v : Vec} {x : Val} (h : x ∈ valuesM v) : clean x = x ∧ x.s.size ≤ 1000 := by
 unfold valuesM at h
 split at h
 · rename_i hg
   obtain ⟨i, hi, rfl⟩ := List.mem_map.1 h
   rw [List.mem_range] at hi
   rw [atV]
   split
   · exact ⟨by simp [clean, Val.zero], by show (0 : Nat) ≤ 1000; decide⟩
   · split
     · exact ⟨by simp [clean, num], by show (0 : Nat) ≤ 1000; decide⟩
     · rename_i hk
       have hk2 : v.kind = 2 := (good_kindW hg).resolve_left hk
       refine ⟨by simp [clean, str], ?_⟩
       unfold goodV at hg
       rw [if_neg hk, if_pos hk2] at hg
       simp only [Bool.and_eq_true, decide_eq_true_eq] at hg
       have := allUp_atW hg.2 (i := i) (by omega)
       simp only [okS, Bool.and_eq_true, Bool.not_eq_true', decide_eq_false_iff_not] at this
       have h2 := this.2
       show ((v.ss[i]?).getD ⟨⟨[]⟩⟩).size ≤ 1000
       omega
 · cases h
theorem stand_mem {l : List Val} {x : Val} (h : x ∈ stand l) : x ∈ l := (List.mem_filter.1 h).1
theorem stand_few {v : Vec} (h : v.null.length ≤ 4096) : Few (stand (valuesM v)) :=
 ⟨Nat.le_trans (List.length_filter_le _ _) (Nat.le_trans (values_len v) h), fun x hx => (values_ok (stand_mem hx)).2⟩
theorem stand_clean (v : Vec) : Clean (stand (valuesM v)) := fun x hx => (values_ok (stand_mem hx)).1
def schemeB (k : Int) (l : List Val) : List UInt8 := if k = 1 then plainB l else if k = 2 then runsB l else if k = 3 then wordsB l else offsB l
def refuseW (k : Int) (v : Vec) : Bool := badW k v || decide (4096 < v.null.length)
def outW (k : Int) (v : Vec) : ByteArray := if refuseW k v = true then ⟨⟨[]⟩⟩ else toB (headB k v ++ schemeB k (stand (valuesM v)))
def outE (k : Int) (v : Vec) : Int := if refuseW k v = true then errW k v else 0
theorem write_c (k a : Int) (B : List Bool) (N : List Int) (S : List ByteArray) (n1 n2 n3 : List (List PV)) (h1 : B.map boolc = n1) (h2 : N.map i64c = n2) (h3 : S.map strc = n3) :
   PCall Try.prog 7 [.agg [.int .i64 a, .sl n1, .sl n2, .sl n3], .int .i64 k] fun r => r = [.str (outW k ⟨a, B, N, S⟩), .int .i64 (outE k ⟨a, B, N, S⟩)] := by
 by_cases hr : refuseW k ⟨a, B, N, S⟩ = true
 · rw [outW, outE, if_pos hr, if_pos hr]
   refine writeE_c k a B N S n1 n2 n3 h1 h2 h3 ?_
   rw [refuseW, Bool.or_eq_true] at hr
   exact hr.imp id of_decide_eq_true
 · rw [outW, outE, if_neg hr, if_neg hr]
   rw [refuseW, Bool.or_eq_true] at hr
   have hb : badW k ⟨a, B, N, S⟩ = false := by
     cases h : badW k ⟨a, B, N, S⟩ with
     | true => exact absurd (.inl h) hr
     | false => rfl
   have hB : B.length ≤ 4096 := by
     rcases Nat.lt_or_ge 4096 B.length with h | h
     · exact absurd (.inr (decide_eq_true h)) hr
     · exact h
   simp only [badW, Bool.or_eq_false_iff, Bool.not_eq_false', decide_eq_false_iff_not, Bool.and_eq_false_iff] at hb
   obtain ⟨⟨⟨hg, hk1⟩, hk4⟩, hk42⟩ := hb
   have hvl : (valuesM ⟨a, B, N, S⟩).length ≤ 4096 := Nat.le_trans (values_len _) hB
   have hf := stand_few (v := ⟨a, B, N, S⟩) hB
   have hkk : k = 1 ∨ k = 2 ∨ k = 3 ∨ k = 4 := by omega
   rcases hkk with rfl | rfl | rfl | rfl
   · exact write1_c a B N S n1 n2 n3 h1 h2 h3 hg hB hf hvl
   · exact write2_c a B N S n1 n2 n3 h1 h2 h3 hg hB hf hvl
   · exact write3_c a B N S n1 n2 n3 h1 h2 h3 hg hB hf hvl (stand_clean _)
   · refine write4_c a B N S n1 n2 n3 h1 h2 h3 hg hB hf hvl ?_
     rcases good_kindW hg with h | h
     · exact h
     · rcases hk42 with h5 | h5
       · exact absurd rfl h5
       · exact absurd h h5
def takeW (v : Vec) (b : ByteArray) (k : Int) : ByteArray := if outE k v = 0 ∧ (outW k v).size < b.size then outW k v else b
def bestW (v : Vec) : Nat → ByteArray
 | 0 => outW 1 v
 | n + 1 => takeW v (bestW v n) (n + 2)
def packOut (v : Vec) : ByteArray := if outE 1 v = 0 then bestW v 3 else ⟨⟨[]⟩⟩
theorem wrP {P : Program} {cp : FuncId → List PV → (CR → Prop) → Prop} (hcp : PC1 P = cp) {f : FuncId} {args : List PV} {X : ByteArray} {E : Int} {K : CR → Prop} (h : PCall P f args fun r => r = [.str X, .int .i64 E]) (k : ∀ s e, X = s → E = e → K (.pure [.str s, .int .i64 e])) : cp f args K := eP hcp h fun r hr => hr ▸ k _ _ rfl rfl
theorem wrA {P : Program} {cc : FuncId → List AV → List AObj → (AV → List AObj → Prop) → Prop} (hcc : ACall P = cc) {f : FuncId} {aargs : List AV} {args : List PV} {H : List AObj} {X : ByteArray} {E : Int} {K : AV → List AObj → Prop} (h : PCall P f args fun r => r = [.str X, .int .i64 E]) (ha : optL pureX aargs = some args) (k : ∀ s e, X = s → E = e → K (packV (mapX .p [.str s, .int .i64 e])) H) : cc f aargs H K := eA hcc h ha fun r hr => hr ▸ k _ _ rfl rfl
set_option maxHeartbeats 400000 in
theorem pack_c (a : Int) (B : List Bool) (N : List Int) (S : List ByteArray) (n1 n2 n3 : List (List PV)) (h1 : B.map boolc = n1) (h2 : N.map i64c = n2) (h3 : S.map strc = n3) :
   PCall Try.prog 8 [.agg [.int .i64 a, .sl n1, .sl n2, .sl n3]] fun r => r = [.str (packOut ⟨a, B, N, S⟩), .int .i64 (outE 1 ⟨a, B, N, S⟩)] := by
 obtain ⟨V, hV⟩ : ∃ V : Vec, ⟨a, B, N, S⟩ = V := ⟨_, rfl⟩
 have hw : ∀ k : Int, PCall Try.prog 7 [.agg [.int .i64 a, .sl n1, .sl n2, .sl n3], .int .i64 k] fun r => r = [.str (outW k V), .int .i64 (outE k V)] := by
   intro k; rw [← hV]; exact write_c k a B N S n1 n2 n3 h1 h2 h3
 rw [hV]
 refine PCall.x (nt := ⟨38, []⟩) (res := [.tmp 2, .tmp 3]) mixed tt_ok [] Try.func8 rfl rfl rfl c8 (Nat.le_of_ble_eq_true rfl) ?_
 intro cp cc lp Q' hcp hcc hlp hQ
 repeat' (first
   | (with_reducible refine Nm.mk ?_; intro z hz)
   | (with_reducible refine IfB.mk ?_ ?_ <;> (intro h; cases h))
   | (with_reducible refine Two.l ?_; refine Asm.mk ?_ ?_; focus (decide +kernel))
   | (with_reducible refine Two.r ?_)
   | (with_reducible refine TwoT.r ?_)
   | (with_reducible refine TwoU.r ?_)
   | (with_reducible refine Asm.mk ?_ ?_; focus (first | (show (_ : Bool) = true; kernel_rfl)))
   | (with_reducible refine isCP hcp ?_; first | (refine wrP hcp (hw _) ?_; intro s e hs he))
   | (with_reducible refine isCC hcc ?_; first | (refine wrA hcc (hw _) rfl ?_; intro s e hs he))
   | (with_reducible refine Asm.mk2 ?_ ?_)
   | ((fail_if_success (with_reducible first | refine hQ _ ?_ | refine Side.mk ?_ | refine isCP hcp ?_ | refine isCC hcc ?_ | refine isLP hlp ?_ | refine Ix.mk ?_ | refine SIx.mk ?_ | refine SEx.mk ?_ | refine EIx.mk ?_ | refine RIx.mk ?_ | refine LkX.mk ?_ | show False | refine hR ?_ _ ?_ ?_ ?_ ?_ ?_ | refine hR2 ?_ _ ?_ ?_ ?_ ?_ ?_)); cbv))
 · refine hQ _ ?_
   have h0 : ¬ outE 1 V = 0 := by
     rw [he]; intro h; rw [h] at hz; cases hz
   rw [packOut, if_neg h0, he]
 · have h0 : outE 1 V = 0 := by
     rw [he]; simpa using hz
   have hp0 : packOut V = bestW V 3 := by rw [packOut, if_pos h0]
   refine loopT (ι := Int × ByteArray) mixed tt_ok hcp hcc hlp [1] (fun p => [(6, .p (.int .i64 p.1)), (4, .p (.str p.2))]) (fun _ => [.cells [.p (.int .i64 a), .p (.sl n1), .p (.sl n2), .p (.sl n3)]]) (fun p => 2 ≤ p.1 ∧ p.1 ≤ 5 ∧ bestW V (p.1 - 2).toNat = p.2) (fun p => (5 - p.1).toNat) (2, s) 1 (fun _ => rfl) ⟨by show (2 : Int) ≤ 2; decide, by show (2 : Int) ≤ 5; decide, hs⟩ ⟨rfl, rfl, trivial⟩ rfl ?_
   rintro R ⟨k, b⟩ ⟨hk2, hk5, hb⟩ hR
   replace hk2 : 2 ≤ k := hk2
   replace hk5 : k ≤ 5 := hk5
   replace hb : bestW V (k - 2).toNat = b := hb
   clear hs he
   have hgo : decide (k ≤ 4) = true → 2 ≤ k + 1 ∧ k + 1 ≤ 5 ∧ (5 - (k + 1)).toNat < (5 - k).toNat ∧ IntKind.i64.wrap (k + 1) = k + 1 ∧ bestW V (k + 1 - 2).toNat = takeW V b k := by
     intro h
     have := of_decide_eq_true h
     refine ⟨by omega, by omega, by omega, wrap_in (by omega), ?_⟩
     rw [show (k + 1 - 2).toNat = (k - 2).toNat + 1 by omega, bestW, hb, show (((k - 2).toNat : Nat) : Int) + 2 = k by omega]
   have hend : decide (k ≤ 4) = false → bestW V 3 = b := by
     intro h
     have := of_decide_eq_false h
     rw [← hb, show (k - 2).toNat = 3 by omega]
   have hyes : ∀ {s2 : ByteArray} {e2 x y : Int}, outW k V = s2 → outE k V = e2 → decide (e2 = 0) = true → (s2.size : Int) = x → (b.size : Int) = y → decide (x < y) = true → takeW V b k = s2 := by
     intro s2 e2 x y g1 g2 g3 g4 g5 g6
     have g7 := of_decide_eq_true g6
     rw [takeW, if_pos ⟨by rw [g2]; exact of_decide_eq_true g3, by rw [g1]; omega⟩, g1]
   have hno1 : ∀ {s2 : ByteArray} {x y : Int}, outW k V = s2 → (s2.size : Int) = x → (b.size : Int) = y → decide (x < y) = false → takeW V b k = b := by
     intro s2 x y g1 g4 g5 g6
     have g7 := of_decide_eq_false g6
     rw [takeW, if_neg]
     rintro ⟨_, h⟩
     rw [g1] at h; omega
   have hno2 : ∀ {e2 : Int}, outE k V = e2 → decide (e2 = 0) = false → takeW V b k = b := by
     intro e2 g2 g3
     rw [takeW, if_neg]
     rintro ⟨h, _⟩
     rw [g2] at h
     exact of_decide_eq_false g3 h
   repeat' (first
     | (with_reducible refine Nm.mk ?_; intro z hz)
     | (with_reducible refine IfB.mk ?_ ?_ <;> (intro h; cases h))
     | (with_reducible refine Two.l ?_; refine Asm.mk ?_ ?_; focus (decide +kernel))
     | (with_reducible refine Two.r ?_)
     | (with_reducible refine TwoT.r ?_)
     | (with_reducible refine TwoU.r ?_)
     | (with_reducible refine Asm.mk ?_ ?_; focus (first | (show (_ : Bool) = true; kernel_rfl)))
     | (with_reducible refine isCP hcp ?_; first | (refine wrP hcp (hw _) ?_; intro s2 e2 hs2 he2))
     | (with_reducible refine isCC hcc ?_; first | (refine wrA hcc (hw _) rfl ?_; intro s2 e2 hs2 he2))
     | (with_reducible refine Asm.mk2 ?_ ?_)
     | ((fail_if_success (with_reducible first | refine hQ _ ?_ | refine Side.mk ?_ | refine isCP hcp ?_ | refine isCC hcc ?_ | refine isLP hlp ?_ | refine Ix.mk ?_ | refine SIx.mk ?_ | refine SEx.mk ?_ | refine EIx.mk ?_ | refine RIx.mk ?_ | refine LkX.mk ?_ | show False | refine hR ?_ _ ?_ ?_ ?_ ?_ ?_ | refine hR2 ?_ _ ?_ ?_ ?_ ?_ ?_)); cbv))
   · rename_i hk4 he0 x hx y hy hxy
     obtain ⟨g1, g2, g3, g4, g5⟩ := hgo hk4
     rw [g4] at hz
     subst hz
     exact hR (k + 1, s2) _ ⟨g1, g2, g5.trans (hyes hs2 he2 he0 hx hy hxy)⟩ g3 ⟨rfl, rfl, trivial⟩ ⟨rfl, trivial⟩ rfl
   · rename_i hk4 he0 x hx y hy hxy
     obtain ⟨g1, g2, g3, g4, g5⟩ := hgo hk4
     rw [g4] at hz
     subst hz
     exact hR (k + 1, b) _ ⟨g1, g2, g5.trans (hno1 hs2 hx hy hxy)⟩ g3 ⟨rfl, rfl, trivial⟩ ⟨rfl, trivial⟩ rfl
   · rename_i hk4 he0
     obtain ⟨g1, g2, g3, g4, g5⟩ := hgo hk4
     rw [g4] at hz
     subst hz
     exact hR (k + 1, b) _ ⟨g1, g2, g5.trans (hno2 he2 he0)⟩ g3 ⟨rfl, rfl, trivial⟩ ⟨rfl, trivial⟩ rfl
   · refine hQ _ ?_
     rw [hp0, hend hz, h0]
end Go.Proofs.Ytcajncmjlmpkgaa

namespace Go.Proofs.Ytcajncmjlmpkgaa
open Go Go.RowKit
set_option maxRecDepth 100000
set_option linter.unusedSimpArgs false
set_option linter.unusedVariables false
theorem toB_size (a : List UInt8) : (toB a).size = a.length := by simp [toB, ByteArray.size]
end Go.Proofs.Ytcajncmjlmpkgaa

namespace Go.Proofs.Ytcajncmjlmpkgaa
open Go Go.RowKit
set_option maxRecDepth 100000
set_option linter.unusedSimpArgs false
set_option linter.unusedVariables false
end Go.Proofs.Ytcajncmjlmpkgaa

namespace Go.Proofs.Ytcajncmjlmpkgaa
open Go Go.RowKit
set_option maxRecDepth 100000
set_option linter.unusedSimpArgs false
set_option linter.unusedVariables false
def FrQ (ts : List Operand) (Q : Exit → AS → Prop) : Exit → AS → Prop
 | .normal, A => frzW ts A (Q .normal)
 | .exit i, A => frzW ts A (Q (.exit i))
 | .goto l, A => frzW ts A (Q (.goto l))
 | .ret, A => frzW ts A (Q .ret)
 | .panic c, A => Q (.panic c) A
 | .outgrown, A => frzW ts A (Q .outgrown)
theorem loopFr {P : Program} {lp : Code → (Exit → AS → Prop) → AS → Prop} {nt : NT} (hlp : (fun c Q A => Wp P nt (.loop c) Q A) = lp) {c : Code} {Q : Exit → AS → Prop} {A : AS} (ts : List Operand) (h : lp c (FrQ ts Q) A) : lp c Q A := by
 subst hlp
 refine Wp.frzV h (fun e A' hq => ?_) (fun _ hq => hq)
 cases e with
 | panic c => exact ⟨[], hq⟩
 | _ => exact ⟨ts, hq⟩
end Go.Proofs.Ytcajncmjlmpkgaa

namespace Go.Proofs.Ytcajncmjlmpkgaa
open Go Go.RowKit
set_option maxRecDepth 100000
set_option linter.unusedSimpArgs false
set_option linter.unusedVariables false
end Go.Proofs.Ytcajncmjlmpkgaa

namespace Go.Proofs.Ytcajncmjlmpkgaa
open Go Go.RowKit
set_option maxRecDepth 100000
set_option linter.unusedSimpArgs false
set_option linter.unusedVariables false
end Go.Proofs.Ytcajncmjlmpkgaa

namespace Go.Proofs.Ytcajncmjlmpkgaa
open Go Go.RowKit
set_option maxRecDepth 100000
set_option linter.unusedSimpArgs false
set_option linter.unusedVariables false
structure Txt (s : ByteArray) (l : List UInt8) (N : Nat) : Prop where
 e : s = toB l
 le : l.length ≤ N
theorem Txt.side {s t : ByteArray} {a b : List UInt8} {N M : Nat} (h : Txt s a N) (k : Txt t b M) (hN : N ≤ 1000000000) (hM : M ≤ 1000000000) : ¬ maxI < ((s.size + t.size : Nat) : Int) := by
 rw [h.e, k.e, toB_size, toB_size]
 have := h.le
 have := k.le
 have : maxI = 9223372036854775807 := by decide
 omega
theorem Txt.name {s : ByteArray} {l : List UInt8} {N : Nat} (h : Txt s l N) (hN : N ≤ 2000) : ∃ hd, l = hd ∧ Txt s hd 2000 := ⟨_, rfl, h.e, Nat.le_trans h.le hN⟩
theorem Txt.mono {s : ByteArray} {l : List UInt8} {N M : Nat} (h : Txt s l N) (hN : N ≤ M) : Txt s l M := ⟨h.e, Nat.le_trans h.le hN⟩
theorem bits_le {w : Int} (hw : 0 ≤ w ∧ w ≤ 64) {xs : List Int} (hl : xs.length ≤ 4096) : (bitsB w xs).length ≤ 50000 := by
 have h := (bitsB_at hw.1 xs).2
 have h1 : w * (xs.length : Int) ≤ 64 * 4096 := Int.le_trans (Int.mul_le_mul_of_nonneg_right hw.2 (by omega)) (Int.mul_le_mul_of_nonneg_left (by omega) (by decide))
 omega
end Go.Proofs.Ytcajncmjlmpkgaa

namespace Go.Proofs.Ytcajncmjlmpkgaa
open Go Go.RowKit
set_option maxRecDepth 100000
set_option linter.unusedSimpArgs false
set_option linter.unusedVariables false
attribute [local irreducible] valB plainB bitsB byW
end Go.Proofs.Ytcajncmjlmpkgaa

namespace Go.Proofs.Ytcajncmjlmpkgaa
open Go Go.RowKit
set_option maxRecDepth 100000
set_option linter.unusedSimpArgs false
set_option linter.unusedVariables false
attribute [local irreducible] valB plainB bitsB byW
end Go.Proofs.Ytcajncmjlmpkgaa

namespace Go.Proofs.Ytcajncmjlmpkgaa
open Go Go.RowKit
set_option maxRecDepth 100000
set_option linter.unusedSimpArgs false
set_option linter.unusedVariables false
attribute [local irreducible] valB plainB bitsB byW
end Go.Proofs.Ytcajncmjlmpkgaa

namespace Go.Proofs.Ytcajncmjlmpkgaa
open Go Go.RowKit
set_option maxRecDepth 100000
set_option linter.unusedSimpArgs false
set_option linter.unusedVariables false
attribute [local irreducible] valB plainB bitsB byW
end Go.Proofs.Ytcajncmjlmpkgaa

namespace Go.Proofs.Ytcajncmjlmpkgaa
open Go Go.RowKit
set_option maxRecDepth 100000
set_option linter.unusedSimpArgs false
set_option linter.unusedVariables false
end Go.Proofs.Ytcajncmjlmpkgaa
