/- slices; slices. Own work; no condition. -/
import Derived.Test.YtlabphnonlicdaaGreatProg
import Derived.Shelf.Slices.Clone
import Derived.Test.YtlabphnonlicdaaGreatPaBri
import Derived.Test.YtlabphnonlicdaaGreatPaAbs22
namespace Go.Proofs.YtlabphnonlicdaaGreat
open Go Go.RowKit Go.Shelf Go.Sort
set_option maxRecDepth 100000
set_option linter.unusedVariables false
def layClone_ren : Ren where
 f := fun x => match x with
   | 15 => 30
   | n => n
 t := fun x => match x with
   | 3 => 3
   | 4 => 4
   | 22 => 23
   | n => n
 g := fun x => x
theorem layClone : Lays2.n15 Tryz.prog layClone_ren where
 mixed := by kernel_rfl
 f15 := by kernel_rfl
 t3 := Tryz.underlying3
 a3 := Tryz.isAgg3
 z3 := Tryz.sizeOf3
 v3 := Tryz.zeroValue3
 t4 := Tryz.underlying4
 a4 := Tryz.isAgg4
 z4 := Tryz.sizeOf4
 v4 := Tryz.zeroValue4
 t22 := Tryz.underlying23
 a22 := Tryz.isAgg23
 z22 := Tryz.sizeOf23
 v22 := Tryz.zeroValue23
 i3 := by kernel_rfl
theorem clone_w {m : Mem} {C : List (List PV)} {zs : List Int} {v : Value} (w : World) (hz : zs.map i64c = C) (hb : zs.length * 8 ≤ 140737488355328) (hm : ∀ b o v, m b o = some v → w.cell? ⟨b, o, none⟩ = some v) (hp : RP m (.sl C) v) :
   Calls Tryz.prog 30 #[v] w fun e w' => ∃ v', e = .returned v' ∧ w'.ownsRow w.heap.size (layClone_ren.t 3) 1 v' zs.length (zs.map (Value.int .i64)) ∧ Below w.heap.size w w' := by
 have hlen : C.length = zs.length := by rw [← hz]; simp
 cases hp with
 | sl0 a cap hc =>
   have h0 : zs = [] := List.length_eq_zero_iff.1 (by rw [← hlen]; rfl)
   subst h0
   cases a with
   | none =>
     refine (Any.slices_Clone_int_nil layClone 0 cap w).mono ?_
     rintro e w' ⟨rfl, rfl⟩
     exact ⟨_, rfl, ⟨rfl, .inl ⟨rfl, rfl⟩⟩, Below.refl _ _⟩
   | some a =>
     refine (Any.slices_Clone_int_zero layClone a cap w).mono ?_
     rintro e w' ⟨v', rfl, h1, _, h3⟩
     exact ⟨v', rfl, h1, h3⟩
 | sl es size b o len cap vs hl hcap hmax hsz hmm hr =>
   have hln : len = zs.length := by rw [← hl, hlen]
   subst hln
   refine (Any.slices_Clone_int layClone b o zs.length cap zs w (Nat.le_refl _) hb fun j hj => ?_).mono ?_
   · have he : C[j]? = some [PV.int .i64 zs[j]] := by rw [← hz, List.getElem?_map, List.getElem?_eq_getElem hj]; rfl
     have hs1 : size = 1 := (hsz _ (List.mem_of_getElem? he)).symm
     subst hs1
     have h1 := hm _ _ _ (hmm j _ 0 he (by show 0 < 1; omega))
     have h2 := hr j _ 0 _ he rfl
     cases h3 : vs j 0 with
     | int k n =>
       rw [h3] at h1 h2
       cases h2
       rw [Nat.mul_one, Nat.add_zero] at h1
       rw [h1, List.getD_eq_getElem?_getD, List.getElem?_eq_getElem hj]; rfl
     | _ => rw [h3] at h2; cases h2
   · rintro e w' ⟨v', rfl, h1, _, h3⟩
     rw [List.take_length] at h1
     exact ⟨v', rfl, h1, h3⟩
theorem flat_c (zs : List Int) : (zs.map i64c).flatten = zs.map (PV.int .i64) := flat_i64 zs
theorem clone_a {H : List AObj} {Q : AV → List AObj → Prop} {C : List (List PV)} {zs : List Int} (hz : zs.map i64c = C) (hb : zs.length * 8 ≤ 140737488355328)
   (k : Q (.vec H.length 0 1 0 C.length) (H ++ [.vec 0 C 1])) : ACall Tryz.prog 30 [.p (.sl C)] H Q := by
 have hlen : C.length = zs.length := by rw [← hz]; simp
 refine ⟨fun B G w vals wr rv => ?_⟩
 obtain ⟨v, rfl⟩ : ∃ v, vals = [v] := by
   have := rv.1
   match vals, this with
   | [v], _ => exact ⟨v, rfl⟩
 have rv0 := rv.2 0 _ v rfl rfl
 have hp : RP G.mem (.sl C) v := by cases rv0; assumption
 refine (clone_w w hz hb wr.mem hp).mono ?_
 rintro e w' ⟨v', rfl, hown, hbel⟩
 have hmem : ∀ b o v, G.mem b o = some v → w'.cell? ⟨b, o, none⟩ = some v := fun b o v h => by
   have := wr.mem b o v h
   rw [hbel.cell (cell?_lt this)]; exact this
 have hall : ∀ e, e ∈ C → e.length = 1 := fun e he => by rw [← hz] at he; obtain ⟨x, _, rfl⟩ := List.mem_map.1 he; rfl
 have hbb : Below B.w.heap.size B.w w' := wr.below.trans (hbel.mono wr.below.size)
 obtain ⟨_, ⟨rfl, h0⟩ | ⟨g, cap, cur, rfl, hg, hh, hcap, hmax, hcs, hcur⟩⟩ := hown
 · have gg := wr.newG (w' := w') (g0 := .tok 0 (.slice none 0 0) none) (x := .vec 0 C 1) hbb hmem (fun b hb => hbel.block b hb) hbel.size (fun b hb => by cases hb)
     ⟨hall, none, 0, none, Ghost.put_obj _ _ _ _, by omega, Nat.zero_le _, .inl ⟨rfl, rfl⟩⟩
   refine ⟨_, _, _, _, rfl, .vec (Ghost.put_obj _ _ _ _) (Nat.le_refl _) ⟨none, 0, by rw [hlen, h0], by omega⟩ (fun _ => ⟨none, 0, none, rfl, Nat.zero_le _, by omega, by rw [hlen, h0], fun h => by omega⟩), gg.2, gg.1, k⟩
 · have hmn : ∀ o, G.mem g o = none := fun o => by
     cases hv : G.mem g o with
     | none => rfl
     | some v => have := cell?_lt (wr.mem _ _ _ hv); simp at this; omega
   have hglt : g < w'.heap.size := (Array.getElem?_eq_some_iff.1 hh).1
   have gg := wr.newG (w' := w') (g0 := .tok 0 (.slice (some ⟨g, 0, none⟩) cap cap) (some g)) (x := .vec 0 C 1) hbb hmem (fun b hb => hbel.block b hb) hbel.size (fun b hb => by
       have e : (some g : Option Nat) = some b := hb
       simp only [Option.some.injEq] at e; subst e; exact ⟨hg, hglt⟩)
     ⟨hall, some ⟨g, 0, none⟩, cap, some g, Ghost.put_obj _ _ _ _, by omega, hmax, .inr ⟨g, cur, _, rfl, rfl, hh, hcs, fun j v hv cc hcc => by
       rw [← hz, flat_c, List.getElem?_map] at hcc
       have hj : j < zs.length := by
         by_cases h : j < zs.length
         · exact h
         · rw [List.getElem?_eq_none (by omega)] at hcc; cases hcc
       rw [List.getElem?_eq_getElem hj] at hcc
       simp only [Option.map_some, Option.some.injEq] at hcc
       subst hcc
       have hv2 : (cur.toList.take (zs.length * 1))[j]? = some v := by
         rw [List.getElem?_take_of_lt (by omega), Array.getElem?_toList]; exact hv
       rw [hcur, List.getElem?_map, List.getElem?_eq_getElem hj] at hv2
       simp only [Option.map_some, Option.some.injEq] at hv2
       subst hv2
       exact .int _ _, hmn⟩⟩
   exact ⟨_, _, _, _, rfl, .vec (Ghost.put_obj _ _ _ _) (Nat.le_refl _) ⟨_, _, by rw [hlen], by omega⟩ (fun _ => ⟨_, cap, _, rfl, hmax, by omega, by rw [hlen, Nat.sub_zero], fun _ => ⟨g, rfl, by rw [Nat.zero_mul]⟩⟩), gg.2, gg.1, k⟩
theorem cloneCC {cc : FuncId → List AV → List AObj → (AV → List AObj → Prop) → Prop} (hcc : ACall Tryz.prog = cc) {H : List AObj} {args : List AV} {K : AV → List AObj → Prop} {C : List (List PV)} {zs : List Int} {n : Nat} (ha : args = [.p (.sl C)]) (hz : zs.map i64c = C) (hb : zs.length * 8 ≤ 140737488355328) (hn : C.length = n)
   (k : K (.vec (lenX H) 0 1 0 n) (catX H [.vec 0 C 1])) : cc 30 args H K := by
 subst hcc ha hn
 rw [catX_eq, lenX_eq] at k
 exact clone_a hz hb k
theorem clone_p {C : List (List PV)} {zs : List Int} (hz : zs.map i64c = C) (hb : zs.length * 8 ≤ 140737488355328) : PCall Tryz.prog 30 [.sl C] fun r => r = [.sl C] := by
 have hlen : C.length = zs.length := by rw [← hz]; simp
 refine ⟨fun m w vals hm hv => ?_⟩
 obtain ⟨v, hvl, hv2⟩ : ∃ v, vals = [v] ∧ RP m (.sl C) v := by
   match vals, hv with
   | [v], hv => exact ⟨v, rfl, hv.2 0 _ v rfl rfl⟩
 subst hvl
 refine Runs.of_calls (by kernel_rfl) ((clone_w w hz hb hm hv2).mono ?_)
 rintro e w' ⟨v', rfl, hown, hbel⟩
 have hmem : ∀ b o v, m b o = some v → w'.cell? ⟨b, o, none⟩ = some v := fun b o v h => by
   have := hm b o v h
   rw [hbel.cell (cell?_lt this)]; exact this
 obtain ⟨_, ⟨rfl, h0⟩ | ⟨g, cap, cur, rfl, hg, hh, hcap, hmax, hcs, hcur⟩⟩ := hown
 · have hC : C = [] := List.length_eq_zero_iff.1 (by omega)
   subst hC
   exact ⟨_, [.sl []], m, rfl, .p (.sl0 _ _ (Nat.zero_le _)), fun _ _ _ h => h, hmem, fun _ _ _ h => .inl h, hbel, rfl⟩
 · have hmn : ∀ o, m g o = none := fun o => by
     cases hv : m g o with
     | none => rfl
     | some v => have := cell?_lt (hm _ _ _ hv); simp at this; omega
   refine ⟨_, [.sl C], fun b o => if b = g then (if o < zs.length then w'.cell? ⟨g, o, none⟩ else none) else m b o, rfl, .p ?_, fun b o v h => ?_, fun b o v h => ?_, fun b o v h => ?_, hbel, rfl⟩
   · have hcell : ∀ i (hi : i < zs.length), w'.cell? ⟨g, i, none⟩ = some (.int .i64 zs[i]) := fun i hi => by
       have hv2 : (cur.toList.take (zs.length * 1))[i]? = some (.int .i64 zs[i]) := by rw [hcur, List.getElem?_map, List.getElem?_eq_getElem hi]; rfl
       rw [List.getElem?_take_of_lt (by omega), Array.getElem?_toList] at hv2
       rw [cell_of_row w' g i cur _ (0, 0) hh, hv2]
     refine .sl C 1 g 0 zs.length cap (fun i _ => .int .i64 ((zs[i]?).getD 0)) hlen hcap hmax (fun e he => by rw [← hz] at he; obtain ⟨x, _, rfl⟩ := List.mem_map.1 he; rfl) (fun i e j he hj => ?_) (fun i e j c he hc => ?_)
     · rw [← hz, List.getElem?_map] at he
       have hi : i < zs.length := by
         by_cases h : i < zs.length
         · exact h
         · rw [List.getElem?_eq_none (by omega)] at he; cases he
       rw [List.getElem?_eq_getElem hi] at he
       simp only [Option.map_some, Option.some.injEq] at he
       subst he
       have hj0 : j = 0 := by have : j < 1 := hj; omega
       subst hj0
       simp only [Nat.zero_add, Nat.mul_one, Nat.add_zero, if_true, if_pos hi, hcell i hi, List.getElem?_eq_getElem hi, Option.getD_some]
     · rw [← hz, List.getElem?_map] at he
       have hi : i < zs.length := by
         by_cases h : i < zs.length
         · exact h
         · rw [List.getElem?_eq_none (by omega)] at he; cases he
       rw [List.getElem?_eq_getElem hi] at he
       simp only [Option.map_some, Option.some.injEq] at he
       subst he
       match j, hc with
       | 0, hc => cases hc; simp only [List.getElem?_eq_getElem hi, Option.getD_some]; exact .int _ _
   · by_cases e : b = g
     · subst e; rw [hmn] at h; cases h
     · simp only [if_neg e]; exact h
   · by_cases e : b = g
     · subst e
       simp only [if_true] at h
       split at h
       · exact h
       · cases h
     · simp only [if_neg e] at h; exact hmem b o v h
   · by_cases e : b = g
     · subst e; exact .inr hg
     · simp only [if_neg e] at h; exact .inl h
end Go.Proofs.YtlabphnonlicdaaGreat

namespace Go.Proofs.YtlabphnonlicdaaGreat
open Go Go.RowKit Go.Shelf Go.Sort
set_option maxRecDepth 100000
set_option linter.unusedVariables false
theorem clone_t {C : List (List PV)} {zs : List Int} (hz : zs.map i64c = C) (hb : zs.length * 8 ≤ 140737488355328) : TCall Tryz.prog 30 [.sl C] (fun l => l = C) 1 := by
 have hlen : C.length = zs.length := by rw [← hz]; simp
 refine ⟨fun m w vals hm hv => ?_⟩
 obtain ⟨v, hvl, hv2⟩ : ∃ v, vals = [v] ∧ RP m (.sl C) v := by
   match vals, hv with
   | [v], hv => exact ⟨v, rfl, hv.2 0 _ v rfl rfl⟩
 subst hvl
 refine Runs.of_calls (by kernel_rfl) ((clone_w w hz hb hm hv2).mono ?_)
 rintro e w' ⟨v', rfl, hown, hbel⟩
 have hmem : ∀ b o v, m b o = some v → w'.cell? ⟨b, o, none⟩ = some v := fun b o v h => by
   have := hm b o v h
   rw [hbel.cell (cell?_lt this)]; exact this
 obtain ⟨_, ⟨rfl, h0⟩ | ⟨g, cap, cur, rfl, hg, hh, hcap, hmax, hcs, hcur⟩⟩ := hown
 · have hC : C = [] := List.length_eq_zero_iff.1 (by omega)
   subst hC
   exact ⟨_, [], none, m, rfl, .sl0 _ _ (Nat.zero_le _), fun _ _ _ h => h, hmem, fun _ _ _ h => .inl h, hbel, .inl ⟨rfl, none, rfl⟩, rfl⟩
 · have hmn : ∀ o, m g o = none := fun o => by
     cases hv : m g o with
     | none => rfl
     | some v => have := cell?_lt (hm _ _ _ hv); simp at this; omega
   refine ⟨_, C, some g, fun b o => if b = g then (if o < zs.length then w'.cell? ⟨g, o, none⟩ else none) else m b o, rfl, ?_, fun b o v h => ?_, fun b o v h => ?_, fun b o v h => ?_, hbel, .inr ⟨g, cur, _, cap, rfl, hg, by rw [hlen], hh, by omega, hmax, hcs, fun o ho => by
     simp only [if_true]
     rw [if_neg (by omega)]⟩, rfl⟩
   · have hcell : ∀ i (hi : i < zs.length), w'.cell? ⟨g, i, none⟩ = some (.int .i64 zs[i]) := fun i hi => by
       have hv2 : (cur.toList.take (zs.length * 1))[i]? = some (.int .i64 zs[i]) := by rw [hcur, List.getElem?_map, List.getElem?_eq_getElem hi]; rfl
       rw [List.getElem?_take_of_lt (by omega), Array.getElem?_toList] at hv2
       rw [cell_of_row w' g i cur _ (0, 0) hh, hv2]
     refine .sl C 1 g 0 zs.length cap (fun i _ => .int .i64 ((zs[i]?).getD 0)) hlen hcap hmax (fun e he => by rw [← hz] at he; obtain ⟨x, _, rfl⟩ := List.mem_map.1 he; rfl) (fun i e j he hj => ?_) (fun i e j c he hc => ?_)
     · rw [← hz, List.getElem?_map] at he
       have hi : i < zs.length := by
         by_cases h : i < zs.length
         · exact h
         · rw [List.getElem?_eq_none (by omega)] at he; cases he
       rw [List.getElem?_eq_getElem hi] at he
       simp only [Option.map_some, Option.some.injEq] at he
       subst he
       have hj0 : j = 0 := by have : j < 1 := hj; omega
       subst hj0
       simp only [Nat.zero_add, Nat.mul_one, Nat.add_zero, if_true, if_pos hi, hcell i hi, List.getElem?_eq_getElem hi, Option.getD_some]
     · rw [← hz, List.getElem?_map] at he
       have hi : i < zs.length := by
         by_cases h : i < zs.length
         · exact h
         · rw [List.getElem?_eq_none (by omega)] at he; cases he
       rw [List.getElem?_eq_getElem hi] at he
       simp only [Option.map_some, Option.some.injEq] at he
       subst he
       match j, hc with
       | 0, hc => cases hc; simp only [List.getElem?_eq_getElem hi, Option.getD_some]; exact .int _ _
   · by_cases e : b = g
     · subst e; rw [hmn] at h; cases h
     · simp only [if_neg e]; exact h
   · by_cases e : b = g
     · subst e
       simp only [if_true] at h
       split at h
       · exact h
       · cases h
     · simp only [if_neg e] at h; exact hmem b o v h
   · by_cases e : b = g
     · subst e; exact .inr hg
     · simp only [if_neg e] at h; exact .inl h
end Go.Proofs.YtlabphnonlicdaaGreat
