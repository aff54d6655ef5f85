/- slices. Own work; no condition. -/
import Derived.Test.YtlabphnonlicdaaGreatProg
import Derived.Shelf.Spec.SlicesGrow
import Derived.Test.YtlabphnonlicdaaGreatPaBri
import Derived.Test.YtlabphnonlicdaaGreatPaAbsQ
import Derived.Test.YtlabphnonlicdaaGreatPa37
namespace Go.Proofs.YtlabphnonlicdaaGreat
open Go Go.RowKit Go.Shelf Go.Sort
set_option maxRecDepth 100000
set_option linter.unusedVariables false
set_option linter.unusedSimpArgs false
def layGrow_ren : Ren where
 f := fun x => match x with
   | 4 => 62
   | n => n
 t := fun x => match x with
   | 22 => 23
   | 25 => 3
   | n => n
 g := fun x => x
theorem layGrow : Lays8.n4 Tryz.prog layGrow_ren where
 mixed := by kernel_rfl
 f4 := ⟨"slices.Grow[[]int,int]", by decide, by kernel_rfl⟩
 t0 := Tryz.underlying0
 a0 := Tryz.isAgg0
 z0 := Tryz.sizeOf0
 v0 := Tryz.zeroValue0
 t3 := Tryz.underlying3
 a3 := Tryz.isAgg3
 z3 := Tryz.sizeOf3
 v3 := Tryz.zeroValue3
 t4 := Tryz.underlying4
 a4 := Tryz.isAgg4
 z4 := Tryz.sizeOf4
 v4 := Tryz.zeroValue4
 t9 := Tryz.underlying9
 a9 := Tryz.isAgg9
 z9 := Tryz.sizeOf9
 v9 := Tryz.zeroValue9
 t20 := Tryz.underlying20
 a20 := Tryz.isAgg20
 z20 := Tryz.sizeOf20
 v20 := Tryz.zeroValue20
 t22 := Tryz.underlying23
 a22 := Tryz.isAgg23
 z22 := Tryz.sizeOf23
 v22 := Tryz.zeroValue23
theorem info3 : ∃ i0, Tryz.prog.info? 3 = some i0 ∧ i0.zero = some (Value.int .i64 0) ∧ i0.size = 1 ∧ i0.bytes = 8 := info_parts (show (Tryz.prog.info? 3).map (fun i => (i.zero, i.size, i.bytes)) = some (some (Value.int .i64 0), 1, 8) by kernel_rfl)
theorem grow_a {H : List AObj} {Q : AV → List AObj → Prop} (n : Nat) (hb : n * 8 ≤ 1000000) (k : Q (.tok H.length []) (H ++ [.spare 0 1])) : ACall Tryz.prog 62 [.full [], .p (.int .i64 n)] H Q := by
 refine ⟨fun B G w vals wr rv => ?_⟩
 obtain ⟨v, u, rfl⟩ : ∃ v u, vals = [v, u] := by
   have := rv.1
   match vals, this with
   | [v, u], _ => exact ⟨v, u, rfl⟩
 have rv0 := rv.2 0 _ v rfl rfl
 have rv1 := rv.2 1 _ u rfl rfl
 obtain ⟨a, rfl, hp⟩ : ∃ a, v = .slice a 0 0 ∧ RP G.mem (.sl []) (.slice a 0 0) := by
   cases rv0 with
   | @full _ ad m hp =>
     have hm : m = 0 := by obtain ⟨a', cap', e'⟩ := hp.slice_len; simp only [Value.slice.injEq] at e'; exact e'.2.1
     subst hm
     exact ⟨ad, rfl, hp⟩
 have hu : u = .int .i64 n := by
   cases rv1 with
   | p hp => cases hp; rfl
 subst hu
 by_cases h0 : n = 0
 · subst h0
   refine (Any8.slices_Grow_room layGrow a 0 0 0 w (Nat.le_refl _) (by omega) (by omega) (Nat.le_refl _)).mono ?_
   rintro e w' ⟨rfl, rfl⟩
   have gg := wr.newG (w' := w') (g0 := .tok 0 (.slice a 0 0) none) (x := .spare 0 1) wr.below wr.mem (fun _ _ => rfl) (Nat.le_refl _) (fun b hb => by cases hb) ⟨_, none, Ghost.put_obj _ _ _ _, .inl ⟨rfl, a, rfl⟩⟩
   exact ⟨_, _, G.put H.length (.tok 0 (.slice a 0 0) none) G.mem, _, rfl, .tok (hp.mono fun _ _ _ h => h) (Ghost.put_obj _ _ _ _) (Nat.le_refl _) (fun _ => rfl), gg.2, gg.1, k⟩
 · obtain ⟨i0, hi, hz, hs, hby⟩ := info3
   refine (Any8.slices_Grow_grow layGrow i0 (.int .i64 0) hi hz (by omega) a 0 0 n [] w (Nat.le_refl _) (by omega) (by rw [hby]; omega) (by omega) (by simp) (fun _ => rfl) (fun _ _ j v hv => by simp at hv)).mono ?_
   rintro e w' ⟨rfl, rfl⟩
   have hcm : grownCap w (0 + n) 0 3 ≤ maxLen := grownCap_le_maxLen w _ _ _ (by simp only [maxLen]; omega)
   have hle := wr.below.size
   have hmn : ∀ o, G.mem w.heap.size o = none := fun o => by
     cases hv : G.mem w.heap.size o with
     | none => rfl
     | some v => have := cell?_lt (wr.mem _ _ _ hv); simp at this
   have wd := wr.drew
   have gg := wr.newG (w' := w.drew.alloc (.cells ([].toArray ++ Builtin.zeroCells (Value.int .i64 0).cells (0 + n - 0) ++ Builtin.zeroCells (Value.int .i64 0).cells (grownCap w (0 + n) 0 3 - (0 + n))) 3))
     (g0 := .tok 0 (.slice (some ⟨w.heap.size, 0, none⟩) 0 (grownCap w (0 + n) 0 3)) (some w.heap.size)) (x := .spare 0 1)
     (wd.below.alloc hle _) (fun b o v hv => cell?_alloc (wd.mem b o v hv)) (fun b hb => Below.heap_alloc w.drew _ b hb) (by simp) (fun b hb => by
       have e : (some w.heap.size : Option Nat) = some b := hb
       simp only [Option.some.injEq] at e; subst e; exact ⟨Nat.le_refl _, by simp⟩)
     ⟨_, some w.heap.size, Ghost.put_obj _ _ _ _, .inr ⟨w.heap.size, _, 3, grownCap w (0 + n) 0 3, rfl, rfl, heap_alloc_new w.drew _, Nat.zero_le _, hcm, by
       have hg := grownCap_ge w (0 + n) 0 3
       simp only [Array.size_append, size_zeroCells]
       show 0 + _ * 1 + _ * 1 = _
       omega, fun o _ => hmn o⟩⟩
   exact ⟨_, _, G.put H.length (.tok 0 (.slice (some ⟨w.heap.size, 0, none⟩) 0 (grownCap w (0 + n) 0 3)) (some w.heap.size)) G.mem, _, rfl, .tok (.sl0 _ _ hcm) (Ghost.put_obj _ _ _ _) (Nat.le_refl _) (fun _ => rfl), gg.2, gg.1, k⟩
theorem growCC {cc : FuncId → List AV → List AObj → (AV → List AObj → Prop) → Prop} (hcc : ACall Tryz.prog = cc) {H : List AObj} {args : List AV} {K : AV → List AObj → Prop} {z : Int} (n : Nat) (ha : args = [.full [], .p (.int .i64 z)]) (hz : z = (n : Int)) (hb : n * 8 ≤ 1000000)
   (k : K (.tok (lenX H) []) (catX H [.spare 0 1])) : cc 62 args H K := by
 subst hcc ha hz
 rw [catX_eq, lenX_eq] at k
 exact grow_a n hb k
def rowI (k : List Int) : List PV := [.sl (k.map i64c)]
theorem rowI_len (k : List Int) : (rowI k).length = 1 := rfl
theorem Ix.ri {C : List (List PV)} {l : List (List Int)} {i : Int} {K : List PV → Prop} (hl : l.map rowI = C) (h0 : 0 ≤ i) (hn : i < l.length)
   (g : ∀ x M, l[i.toNat]? = some x → x.map i64c = M → K [.sl M]) : Ix 1 C i K :=
 Ix.map hl rowI_len (by decide) h0 hn fun x hx => g x _ hx rfl
theorem ok_i64g (l : List Int) : okEs 1 (l.map i64c) = true := List.all_eq_true.2 fun e he => by obtain ⟨c, _, rfl⟩ := List.mem_map.1 he; rfl
set_option maxHeartbeats 4000000 in
theorem concat_c (V : List (List Int)) (C : List (List PV)) (hC : V.map rowI = C) (hb : V.flatten.length ≤ 100000) (hl : V.length ≤ 100000) : PCall Tryz.prog 33 [.sl C] fun r => r = [.sl (V.flatten.map i64c)] := by
 have b1 : C.length = V.length := by rw [← hC]; simp
 have htk : ∀ i : Nat, (V.take i).flatten.length ≤ V.flatten.length := fun i => by
   conv => rhs; rw [← List.take_append_drop i V, List.flatten_append, List.length_append]
   omega
 refine PCall.x (nt := 36) (res := [.tmp 2]) mixed tt_ok [] Tryz.func33 rfl rfl rfl c33 (Nat.le_of_ble_eq_true rfl) ?_
 intro cp cc lp Q' hcp hcc hlp hQ
 repeat' (first
   | (with_reducible refine Nm.mk ?_; intro z hz)
   | (with_reducible refine IfB.mk ?_ ?_ <;> (intro h; cases h))
   | (with_reducible refine Two.l ?_; refine Asm.mk ?_ ?_; focus (decide +kernel))
   | (with_reducible refine Two.r ?_)
   | (with_reducible refine TwoT.r ?_)
   | (with_reducible refine Asm.mk ?_ ?_; focus (first | kernel_rfl | decide))
   | (with_reducible refine Asm.mk2 ?_ ?_)
   | ((fail_if_success (with_reducible first | refine hQ _ ?_ | refine Side.mk ?_ | refine isCP hcp ?_ | refine isCC hcc ?_ | refine isLP hlp ?_ | refine Ix.mk ?_ | refine SIx.mk ?_ | refine SEx.mk ?_ | refine EIx.mk ?_ | refine RIx.mk ?_ | refine LkX.mk ?_ | show False | refine hR ?_ _ ?_ ?_ ?_ ?_ ?_ | refine hR2 ?_ _ ?_ ?_ ?_ ?_ ?_)); cbv))
 simp only [nc] at hz
 simp only [nc'] at hz
 have hzl := lenZ b1 hz
 clear hz
 generalize z = zl at *
 refine loopK (ι := Int × Int) mixed tt_ok hcp hcc hlp [0, 9, 10] (fun p => [(3, .p (.int .i64 p.2)), (11, .p (.int .i64 p.1))]) (fun p => Rng V.length zl p.1 ∧ p.2 = ((V.take p.1.toNat).flatten.length : Int)) (fun p => (zl - p.1).toNat) (0, 0) (fun _ => rfl) ⟨Rng.start hzl (by omega), rfl⟩ ⟨rfl, rfl, trivial⟩ ?_
 rintro R ⟨i, s⟩ ⟨rg, hs⟩ hR
 replace rg : Rng V.length zl i := rg
 replace hs : s = ((V.take i.toNat).flatten.length : Int) := hs
 have hstep : ∀ {x : List Int} {M : List (List PV)} {z z' : Int}, IntKind.i64.wrap (s + z) = z' → V[i.toNat]? = some x → x.map i64c = M → (M.length : Int) = z → z' = ((V.take (i + 1).toNat).flatten.length : Int) ∧ 0 ≤ z' := by
   rintro x M z z' h hx rfl rfl
   have h1 := htk (i + 1).toNat
   rw [rg.take hx, List.flatten_append, List.length_append] at h1
   simp only [List.flatten_cons, List.flatten_nil, List.append_nil] at h1
   rw [List.length_map] at h
   rw [wrap_in (by omega)] at h
   rw [rg.take hx, List.flatten_append, List.length_append]
   simp only [List.flatten_cons, List.flatten_nil, List.append_nil]
   omega
 have hend : decide (i < zl) = false → s = (V.flatten.length : Int) := by
   intro h; rw [hs, rg.take_ rfl h]
 repeat' (first
   | (with_reducible refine Nm.mk ?_; intro z hz)
   | (with_reducible refine IfB.mk ?_ ?_ <;> (intro h; cases h))
   | (with_reducible refine Two.l ?_; refine Asm.mk ?_ ?_; focus (decide +kernel))
   | (with_reducible refine Two.r ?_)
   | (with_reducible refine TwoT.r ?_)
   | (with_reducible refine Asm.mk ?_ ?_; focus kernel_rfl)
   | (with_reducible refine Ix.ri hC rg.lo (rg.lt (by assumption)) ?_; intro x M hx hM)
   | (with_reducible refine isCC hcc ?_; refine growCC hcc V.flatten.length rfl (hend (by assumption)) (by omega) ?_)
   | (with_reducible refine Asm.mk2 ?_ ?_)
   | ((fail_if_success (with_reducible first | refine hQ _ ?_ | refine Side.mk ?_ | refine isCP hcp ?_ | refine isCC hcc ?_ | refine isLP hlp ?_ | refine Ix.mk ?_ | refine SIx.mk ?_ | refine SEx.mk ?_ | refine EIx.mk ?_ | refine RIx.mk ?_ | refine LkX.mk ?_ | show False | refine hR ?_ _ ?_ ?_ ?_ ?_ ?_ | refine hR2 ?_ _ ?_ ?_ ?_ ?_ ?_)); cbv))
 · obtain ⟨_, h0⟩ := hstep (by assumption) hx hM (by assumption)
   have h1 := of_decide_eq_true hz
   exact absurd h0 (by omega)
 · have hlt : decide (i < zl) = true := by assumption
   obtain ⟨h1, _⟩ := hstep (by assumption) hx hM (by assumption)
   rw [rg.wrap hlt] at hz
   exact hR (i + 1, _) _ ⟨rg.next hlt, h1⟩ (rg.less hlt) ⟨rfl, hz ▸ rfl, trivial⟩ ⟨rfl, rfl, rfl, trivial⟩ rfl
 clear hR hstep hend hs rg
 simp only [nc] at hz
 simp only [nc'] at hz
 have hyl := lenZ b1 hz
 clear hz
 generalize z = yl at *
 refine loopT (ι := Int × List (List PV) × Nat) mixed tt_ok hcp hcc hlp [25, 26] (fun p => [(6, .tok 0 p.2.1), (27, .p (.int .i64 p.1))]) (fun p => [.spare p.2.2 1])
   (fun p => Rng V.length yl p.1 ∧ (V.take p.1.toNat).flatten.map i64c = p.2.1 ∧ p.2.1.length = p.2.2) (fun p => (yl - p.1).toNat) (0, [], 0) 1 (fun _ => rfl) ⟨Rng.start hyl (by omega), rfl, rfl⟩ ⟨rfl, rfl, trivial⟩ rfl ?_
 rintro R2 ⟨i, C1, m1⟩ ⟨rg, hC1, hm1⟩ hR
 replace rg : Rng V.length yl i := rg
 replace hC1 : (V.take i.toNat).flatten.map i64c = C1 := hC1
 replace hm1 : C1.length = m1 := hm1
 have hok : okEs 1 C1 = true := by rw [← hC1]; exact ok_i64g _
 have hC1l : C1.length ≤ 100000 := by rw [← hC1, List.length_map]; have := htk i.toNat; omega
 have hsd : ∀ {x : List Int} {M : List (List PV)}, V[i.toNat]? = some x → x.map i64c = M → (m1 = C1.length ∧ 1 = 1 ∧ okEs 1 C1 = true ∧ okEs 1 M = true ∧ C1.length + M.length ≤ maxLen ∧ (C1.length + M.length) * 8 ≤ 140737488355328) := by
   rintro x M hx rfl
   have h1 := htk (i + 1).toNat
   rw [rg.take hx, List.flatten_append, List.length_append] at h1
   simp only [List.flatten_cons, List.flatten_nil, List.append_nil] at h1
   refine ⟨hm1.symm, rfl, hok, ok_i64g _, ?_, ?_⟩ <;> simp only [List.length_map, maxLen] <;> omega
 repeat' (first
   | (with_reducible refine Nm.mk ?_; intro z hz)
   | (with_reducible refine IfB.mk ?_ ?_ <;> (intro h; cases h))
   | (with_reducible refine Two.l ?_; refine Asm.mk ?_ ?_; focus (decide +kernel))
   | (with_reducible refine Two.r ?_)
   | (with_reducible refine TwoT.r ?_)
   | (with_reducible refine Asm.mk ?_ ?_; focus (first | exact hsd hx hM | kernel_rfl))
   | (with_reducible refine Ix.ri hC rg.lo (rg.lt (by assumption)) ?_; intro x M hx hM)
   | (with_reducible refine Asm.mk2 ?_ ?_)
   | ((fail_if_success (with_reducible first | refine hQ _ ?_ | refine Side.mk ?_ | refine isCP hcp ?_ | refine isCC hcc ?_ | refine isLP hlp ?_ | refine Ix.mk ?_ | refine SIx.mk ?_ | refine SEx.mk ?_ | refine EIx.mk ?_ | refine RIx.mk ?_ | refine LkX.mk ?_ | show False | refine hR ?_ _ ?_ ?_ ?_ ?_ ?_ | refine hR2 ?_ _ ?_ ?_ ?_ ?_ ?_)); cbv))
 · have hlt : decide (i < yl) = true := by assumption
   rename_i L3 hL3 m3 hm3
   rw [rg.wrap hlt] at hz
   refine hR (i + 1, L3, m3) _ ⟨rg.next hlt, ?_, by show L3.length = m3; rw [← hL3, ← hm3, List.length_append]⟩ (rg.less hlt) ⟨rfl, hz ▸ rfl, trivial⟩ ⟨rfl, rfl, trivial⟩ rfl
   show (V.take (i + 1).toNat).flatten.map i64c = L3
   rw [rg.take hx, List.flatten_append, List.map_append, hC1, ← hL3, ← hM]
   simp
 · refine hQ _ ?_
   rw [← hC1, rg.take_ rfl (by assumption)]
end Go.Proofs.YtlabphnonlicdaaGreat
