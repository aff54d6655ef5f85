/- Plans: the kinds, by the program; Plans: Check of the program and of the document; Plans: PlanChecks; Plans and tables that came in: what they read as; the law. Own work; no condition. -/
import Derived.Test.YtlabphnonlicdaaGreatPa44
import Derived.Test.YtlabphnonlicdaaGreatPaGrw1
import Derived.Test.YtlabphnonlicdaaGreatPaPo1
import Derived.Test.YtlabphnonlicdaaGreatPaPnP
import Derived.Test.YtlabphnonlicdaaGreatPa46
import Derived.Test.YtlabphnonlicdaaGreatPa39
import Derived.Test.YtlabphnonlicdaaGreatPa37
namespace Go.Proofs.YtlabphnonlicdaaGreat
open Go Go.RowKit
set_option maxRecDepth 100000
set_option linter.unusedSimpArgs false
set_option linter.unusedVariables false
theorem kinds1_c (nm : ByteArray) (CC RW : List (List PV)) (op : Int) (tb : ByteArray) (E C K A R : List (List PV)) (fn cl n off : Int) :
   PCall Tryz.prog 29 [.agg [.str nm, .sl CC, .sl RW], .ip [.ip [.int .i64 op, .str tb, .sl E, .sl C, .sl K, .sl A, .int .i64 fn, .int .i64 cl, .int .i64 n, .int .i64 off, .sl R]]] fun r => r = [.bool (decide (nm = tb))] := by
 refine PCall.x (nt := 11) (res := [.tmp 3]) mixed tt_ok [] Tryz.func29 rfl rfl rfl c29 (Nat.le_of_ble_eq_true rfl) ?_
 intro cp cc lp Q' hcp hcc hlp hQ
 repeat' (first
   | (with_reducible refine Nm.mk ?_; intro z hz)
   | (with_reducible refine IfB.mk ?_ ?_ <;> (intro h; cases h))
   | (with_reducible refine Two.l ?_; refine Asm.mk ?_ ?_; focus (decide +kernel))
   | (with_reducible refine Two.r ?_)
   | (with_reducible refine TwoT.r ?_)
   | (with_reducible refine Asm.mk ?_ ?_; focus (first | kernel_rfl | decide))
   | (with_reducible refine Asm.mk2 ?_ ?_)
   | ((fail_if_success (with_reducible first | refine hQ _ ?_ | refine Side.mk ?_ | refine isCP hcp ?_ | refine isCC hcc ?_ | refine isLP hlp ?_ | refine Ix.mk ?_ | refine SIx.mk ?_ | refine SEx.mk ?_ | refine EIx.mk ?_ | refine RIx.mk ?_ | refine LkX.mk ?_ | show False | refine hR ?_ _ ?_ ?_ ?_ ?_ ?_ | refine hR2 ?_ _ ?_ ?_ ?_ ?_ ?_)); cbv))
 all_goals (refine hQ _ ?_; clear hQ hcp hcc hlp; rw [← hz, sbeq_eq])
def KindsC (T : List Tb) (C : List (List PV)) (p : Pl) : Prop := ∀ cells, p.cells = cells → PCall Tryz.prog 16 [.ip cells, .sl C] fun r => r = [.sl ((kindsP T p).1.map i64c), .int .i64 (kindsP T p).2]
theorem find_idx (T : List Tb) (tb : ByteArray) : ∃ z : Int, idxG (fun t => decide (t.name = tb)) T 0 = z ∧ (z < 0 → T.find? (fun t => decide (t.name = tb)) = none) ∧ (¬ z < 0 → ∃ t, T[z.toNat]? = some t ∧ T.find? (fun t => decide (t.name = tb)) = some t ∧ 0 ≤ z ∧ z < (T.length : Int)) := by
 refine ⟨_, rfl, ?_⟩
 obtain ⟨h1, h2⟩ := idxG_find (fun t : Tb => decide (t.name = tb)) T 0 (by decide)
 cases hf : T.find? (fun t => decide (t.name = tb)) with
 | none =>
   have := h1 hf
   exact ⟨fun _ => rfl, fun h => by omega⟩
 | some t =>
   obtain ⟨h3, h4⟩ := h2 t hf
   rw [Int.sub_zero] at h4
   have := (List.getElem?_eq_some_iff.1 h4).1
   exact ⟨fun h => by omega, fun _ => ⟨t, h4, rfl, h3, by omega⟩⟩
set_option maxHeartbeats 16000000 in
theorem kinds_c (T : List Tb) (CT : List (List PV)) (hCT : T.map Tb.cells = CT) (hT : schM [] T = true) (hbT : wideM 24 T.length) (hwT : ∀ t, t ∈ T → t.wide) (op : Int) (tb : ByteArray) (es : List Ex) (E C K A R : List (List PV)) (fn cl n off : Int) (cs : List Int) (ks : List (Int × Bool)) (ag : List (Int × Int)) (ar : List Pl) (hE : es.map Ex.cells = E) (hC : cs.map i64c = C) (hK : ks.map keyc = K) (hA : ag.map aggc = A) (hR0 : ar.map Pl.cells = R)
   (hw : (Pl.mk op tb es cs ks ag fn cl n off ar).wide) (hp : PlOk op es cs ks ag fn cl ar) (IH : ∀ x, x ∈ ar → KindsC T CT x) :
   PCall Tryz.prog 16 [.ip [.int .i64 op, .str tb, .sl E, .sl C, .sl K, .sl A, .int .i64 fn, .int .i64 cl, .int .i64 n, .int .i64 off, .sl R], .sl CT] fun r => r = [.sl ((kindsP T (.mk op tb es cs ks ag fn cl n off ar)).1.map i64c), .int .i64 (kindsP T (.mk op tb es cs ks ag fn cl n off ar)).2] := by
 rw [Pl.wide] at hw
 obtain ⟨⟨⟨hwL, hwE⟩, hwC, hwK, hwA, hwN, hwR⟩, _⟩ := hw
 have b1 : R.length = ar.length := by rw [← hR0]; simp
 obtain ⟨⟨L, er⟩, hP⟩ : ∃ p, kindsP T (.mk op tb es cs ks ag fn cl n off ar) = p := ⟨_, rfl⟩
 rw [hP]
 rw [kindsP] at hP
 obtain ⟨⟨ins, ek⟩, hkl⟩ : ∃ p, kindsL T ar = p := ⟨_, rfl⟩
 rw [hkl] at hP
 have hgood : ek = 0 → ∀ k, k ∈ ins → kGood k := fun h => by
   have h1 := kindsL_good hT ar hp.sub (by rw [hkl]; exact h)
   rw [hkl] at h1; exact h1
 have hwR' := hwR
 unfold wideM at hwR'
 refine PCall.x (nt := 171) (res := [.tmp 4, .tmp 5]) mixed tt_ok [(28, [0])] Tryz.func16 rfl rfl rfl c16 (Nat.le_of_ble_eq_true rfl) ?_
 intro cp cc lp Q' hcp hcc hlp hQ
 repeat' (first
   | (with_reducible refine Nm.mk ?_; intro z hz)
   | (with_reducible refine IfB.mk ?_ ?_ <;> (intro h; cases h))
   | (with_reducible refine Two.l ?_; refine Asm.mk ?_ ?_; focus (decide +kernel))
   | (with_reducible refine Two.r ?_)
   | (with_reducible refine TwoT.r ?_)
   | (with_reducible refine Asm.mk ?_ ?_; focus (first | kernel_rfl | decide))
   | (with_reducible refine Asm.mk2 ?_ ?_)
   | ((fail_if_success (with_reducible first | refine hQ _ ?_ | refine Side.mk ?_ | refine isCP hcp ?_ | refine isCC hcc ?_ | refine isLP hlp ?_ | refine Ix.mk ?_ | refine SIx.mk ?_ | refine SEx.mk ?_ | refine EIx.mk ?_ | refine RIx.mk ?_ | refine LkX.mk ?_ | show False | refine hR ?_ _ ?_ ?_ ?_ ?_ ?_ | refine hR2 ?_ _ ?_ ?_ ?_ ?_ ?_)); cbv))
 simp only [nc] at hz
 simp only [nc'] at hz
 have hzl := lenZ b1 hz
 clear hz
 generalize z = zl at *
 refine mintT hlp 1 6 rfl ?_
 refine loopT (ι := Int × List (List Int) × List (List PV) × Nat) mixed tt_ok hcp hcc hlp [1, 2, 21, 22] (fun p => [(6, .tok 1 p.2.2.1), (23, .p (.int .i64 p.1))]) (fun p => [.cells [.p (.ip [.int .i64 op, .str tb, .sl E, .sl C, .sl K, .sl A, .int .i64 fn, .int .i64 cl, .int .i64 n, .int .i64 off, .sl R])], .spare p.2.2.2 1])
   (fun p => Rng ar.length zl p.1 ∧ ((kindsL T (ar.drop p.1.toNat)).2 = ek ∧ (ek = 0 → ins = p.2.1 ++ (kindsL T (ar.drop p.1.toNat)).1)) ∧ p.2.1.map rowI = p.2.2.1 ∧ p.2.2.1.length = p.2.2.2 ∧ p.2.1.length = p.1.toNat) (fun p => (zl - p.1).toNat) (0, [], [], 0) 2 (fun _ => rfl) ⟨Rng.start hzl (by omega), ⟨by show (kindsL T ar).2 = ek; rw [hkl], fun _ => by show ins = [] ++ (kindsL T ar).1; rw [hkl]; rfl⟩, rfl, rfl, rfl⟩ ⟨rfl, rfl, trivial⟩ rfl ?_
 rintro R1 ⟨i, acc, C1, m1⟩ ⟨rg, ⟨hf1, hf2⟩, hC1, hm1, hacc⟩ hR
 replace rg : Rng ar.length zl i := rg
 replace hf1 : (kindsL T (ar.drop i.toNat)).2 = ek := hf1
 replace hf2 : ek = 0 → ins = acc ++ (kindsL T (ar.drop i.toNat)).1 := hf2
 replace hC1 : acc.map rowI = C1 := hC1
 replace hm1 : C1.length = m1 := hm1
 replace hacc : acc.length = i.toNat := hacc
 have hok : okEs 1 C1 = true := by rw [← hC1]; exact List.all_eq_true.2 fun e he => by obtain ⟨c, _, rfl⟩ := List.mem_map.1 he; rfl
 have hCl : C1.length = i.toNat ∧ (decide (i < zl) = true → i.toNat + 1 ≤ ar.length) := by
   refine ⟨by rw [← hC1, List.length_map, hacc], fun h => by have := rg.ltN h; omega⟩
 have hihx : ∀ {x : Pl} {cells : List PV}, ar[i.toNat]? = some x → x.cells = cells → ∃ M e, (kindsP T x).1.map i64c = M ∧ (kindsP T x).2 = e ∧ PCall Tryz.prog 16 [.ip cells, .sl CT] fun r => r = [.sl M, .int .i64 e] := fun hx hc => ⟨_, _, rfl, rfl, IH _ (List.mem_of_getElem? hx) _ hc⟩
 have hstep : ∀ {x : Pl}, ar[i.toNat]? = some x → (¬ (kindsP T x).2 = 0 → L = [] ∧ er = (kindsP T x).2) ∧ ((kindsP T x).2 = 0 → (kindsL T (ar.drop (i + 1).toNat)).2 = ek ∧ (ek = 0 → ins = (acc ++ [(kindsP T x).1]) ++ (kindsL T (ar.drop (i + 1).toNat)).1)) := by
   intro x hx
   rw [rg.step hx, kindsL] at hf1 hf2
   constructor
   · intro h
     rw [if_neg h] at hf1
     dsimp only at hf1
     rw [if_neg (by dsimp only; rw [← hf1]; exact h)] at hP
     simp only [Prod.mk.injEq] at hP
     exact ⟨hP.1.symm, by rw [← hP.2, hf1]⟩
   · intro h
     rw [if_pos h] at hf1 hf2
     dsimp only at hf1 hf2
     exact ⟨hf1, fun h' => by rw [hf2 h', List.append_assoc]; rfl⟩
 have hout : decide (i < zl) = false → ek = 0 ∧ ins = acc ∧ kindsOp T op tb es cs ks ag fn cl ins = (L, er) := by
   intro h
   rw [rg.end_ rfl h, kindsL] at hf1 hf2
   have h0 : ek = 0 := hf1.symm
   have h1 := hf2 h0
   rw [List.append_nil] at h1
   rw [if_pos h0] at hP
   exact ⟨h0, h1, hP⟩
 repeat' (first
   | (with_reducible refine Nm.mk ?_; intro z hz)
   | (with_reducible refine IfB.mk ?_ ?_ <;> (intro h; cases h))
   | (with_reducible refine Two.l ?_; refine Asm.mk ?_ ?_; focus (decide +kernel))
   | (with_reducible refine Two.r ?_)
   | (with_reducible refine TwoT.r ?_)
   | (with_reducible refine Asm.mk ?_ ?_; focus (first | (have := hCl.2 (by assumption); have := hCl.1; refine ⟨hm1.symm, rfl, hok, rfl, ?_, ?_⟩ <;> (clear hR hQ; simp only [List.length_cons, List.length_nil, maxLen]; omega)) | (show (_ : Bool) = true; kernel_rfl)))
   | (with_reducible refine isCP hcp ?_; first | (refine xP hcp (hcall) ?_; skip))
   | (with_reducible refine isCC hcc ?_; first | (refine xA hcc (hcall) rfl ?_; skip))
   | (with_reducible refine Ix.plf hR0 rg.lo (rg.lt (by assumption)) ?_; intro x op' tb' E' C' K' A' fn' cl' n' off' R' es' cs' ks' ag' ar' hx hpf; obtain ⟨M, e, hM, he, hcall⟩ := hihx hx hpf.cells)
   | (with_reducible refine Asm.mk2 ?_ ?_)
   | ((fail_if_success (with_reducible first | refine hQ _ ?_ | refine Side.mk ?_ | refine isCP hcp ?_ | refine isCC hcc ?_ | refine isLP hlp ?_ | refine Ix.mk ?_ | refine SIx.mk ?_ | refine SEx.mk ?_ | refine EIx.mk ?_ | refine RIx.mk ?_ | refine LkX.mk ?_ | show False | refine hR ?_ _ ?_ ?_ ?_ ?_ ?_ | refine hR2 ?_ _ ?_ ?_ ?_ ?_ ?_)); cbv))
 all_goals first
   | (have hne : ¬ e = 0 := by
        have h : (!decide (e = 0)) = true := by assumption
        simpa using h
      obtain ⟨h1, h2⟩ := (hstep hx).1 (by rw [he]; exact hne)
      refine hQ _ ?_
      rw [h1, h2, he]; rfl)
   | (have hlt : decide (i < zl) = true := by assumption
      have he0 : e = 0 := by
        have h : (!decide (e = 0)) = false := by assumption
        simpa using h
      obtain ⟨h1, h2⟩ := (hstep hx).2 (by rw [he]; exact he0)
      rename_i C2 hC2 m2 hm2
      rw [rg.wrap hlt] at hz
      exact hR (i + 1, acc ++ [(kindsP T x).1], C2, m2) _ ⟨rg.next hlt, ⟨h1, h2⟩, by show (acc ++ [(kindsP T x).1]).map rowI = C2; rw [← hC2, ← hC1, List.map_append, ← hM]; rfl, by show C2.length = m2; rw [← hC2, ← hm2, List.length_append], by show (acc ++ [(kindsP T x).1]).length = (i + 1).toNat; rw [List.length_append, hacc, rg.toNat]; rfl⟩ (rg.less hlt) ⟨rfl, hz ▸ rfl, trivial⟩ ⟨rfl, rfl, rfl, rfl, trivial⟩ rfl)
   | skip
 all_goals
   (obtain ⟨hek, hins, hko⟩ := hout (by assumption)
    have hil : ins.length = ar.length := by rw [hins, hacc, (rg.stop (by assumption)).2.2]; rfl
    have hC1' : ins.map rowI = C1 := by rw [hins]; exact hC1
    have hgd := hgood hek
    clear hR hstep hihx hout hf1 hf2 hP hgood hCl IH hins hC1 hacc rg
    obtain ⟨K0, hK0⟩ : ∃ k, (ins[0]?).getD [] = k := ⟨_, rfl⟩
    obtain ⟨M0, hM0⟩ : ∃ m, K0.map i64c = m := ⟨_, rfl⟩
    have hne1 : decide (op = 1) = false → decide (op = 12) = false → 1 ≤ ar.length := by
      intro h1 h2
      have h1 := of_decide_eq_false h1
      have h2 := of_decide_eq_false h2
      have hr := hp.rng
      by_cases h8 : op = 8
      · exact hp.any h8
      · by_cases h4 : op = 4 ∨ op = 5 ∨ op = 11
        · have := hp.two h4; omega
        · have := hp.one (by omega); omega
    have hK0g : kGood K0 := by
      rw [← hK0]
      cases h : ins[0]? with
      | none => exact ⟨fun x hx => (by cases hx), Nat.zero_le _⟩
      | some k => exact hgd k (List.mem_of_getElem? h)
    have hx0 : decide (op = 1) = false → decide (op = 12) = false → C1[Int.toNat 0]? = some [.sl M0] := by
      intro h1 h2
      have h3 := hne1 h1 h2
      have h4 : ins[0]? = some K0 := by
        rw [← hK0, List.getElem?_eq_getElem (show 0 < ins.length by omega)]; rfl
      rw [← hC1', List.getElem?_map, show Int.toNat 0 = 0 from rfl, h4, ← hM0]; rfl
    obtain ⟨e0, he0⟩ : ∃ e, (es[0]?).getD (.mk 0 0 Val.zero []) = e := ⟨_, rfl⟩
    have hwe : e0.wide := by
      rw [← he0]
      cases h : es[0]? with
      | none => exact ⟨by unfold wideN; decide, trivial⟩
      | some k => exact wide_mem hwL (List.mem_of_getElem? h)
    have hxE0 : (decide (op = 2) = true ∨ decide (op = 4) = true ∨ decide (op = 5) = true) → E[Int.toNat 0]? = some e0.cells := by
      intro h
      simp only [decide_eq_true_eq] at h
      have h1 := hp.ex1 h
      have h4 : es[0]? = some e0 := by
        rw [← he0, List.getElem?_eq_getElem (show 0 < es.length by omega)]; rfl
      rw [← hE, List.getElem?_map, show Int.toNat 0 = 0 from rfl, h4]; rfl
    obtain ⟨op0, m0, ⟨vk0, vn0, vs0⟩, ar0⟩ := e0
    obtain ⟨E0, hE0⟩ : ∃ l, ar0.map Ex.cells = l := ⟨_, rfl⟩
    rw [cells_mk, hE0] at hxE0
    have hxE : (decide (op = 2) = true ∨ decide (op = 4) = true ∨ decide (op = 5) = true) → E[Int.toNat 0]? = some [.int .i64 op0, .int .i64 m0, .int .i64 vk0, .int .i64 vn0, .str vs0, .sl E0] := hxE0
    obtain ⟨F, hF⟩ : ∃ f, ins.flatten = f := ⟨_, rfl⟩
    obtain ⟨MF, hMF⟩ : ∃ m, F.map i64c = m := ⟨_, rfl⟩
    have hFl : (decide (op = 4) = true ∨ decide (op = 5) = true) → F.length ≤ 64 := by
      intro h
      simp only [decide_eq_true_eq] at h
      have h2 := hp.two (by omega)
      rw [← hF]
      match ins, (show ins.length = 2 by omega), hgd with
      | [a, b], _, hgd =>
        have h3 := (hgd a (by simp)).2
        have h4 := (hgd b (by simp)).2
        simp
        omega
    have hcat : (decide (op = 4) = true ∨ decide (op = 5) = true) → PCall Tryz.prog 33 [.sl C1] fun r => r = [.sl MF] := by
      intro h
      have h1 := hFl h
      simp only [decide_eq_true_eq] at h
      have h2 := hp.two (by omega)
      have h3 := concat_c ins C1 hC1' (by rw [hF]; omega) (by omega)
      rw [hF, hMF] at h3
      exact h3
    have hcA := condition_c K0 M0 hM0 op0 m0 vk0 vn0 vs0 ar0 E0 hE0 hwe
    have hcB := condition_c F MF hMF op0 m0 vk0 vn0 vs0 ar0 E0 hE0 hwe
    obtain ⟨⟨Lp, ep⟩, hpj⟩ : ∃ p, projL K0 es 0 [] = p := ⟨_, rfl⟩
    obtain ⟨Dp, hDp⟩ : ∃ d, Lp.map i64c = d := ⟨_, rfl⟩
    have hprj := project_c op tb C K A R fn cl n off K0 M0 hM0 es E hE hwL hwE Dp ep (by rw [hpj]; exact hDp) (by rw [hpj])
    obtain ⟨⟨Lg, eg⟩, hgk⟩ : ∃ p, groupK K0 cs ag = p := ⟨_, rfl⟩
    obtain ⟨Dg, hDg⟩ : ∃ d, Lg.map i64c = d := ⟨_, rfl⟩
    have hKb : K0.length ≤ 32 := hK0g.2
    unfold wideM at hwC hwK hwA
    have hgrp : decide (op = 6) = true → PCall Tryz.prog 34 [.ip [.int .i64 op, .str tb, .sl E, .sl C, .sl K, .sl A, .int .i64 fn, .int .i64 cl, .int .i64 n, .int .i64 off, .sl R], .sl M0] fun r => r = [.sl Dg, .int .i64 eg] := by
      intro h
      have h6 := hp.grp (of_decide_eq_true h)
      have h7 := group_c op tb E C K A R fn cl n off K0 M0 hM0 (by omega) cs ag hC hA hwC hwA h6.1 h6.2 Lg eg hgk
      rw [hDg] at h7; exact h7
    obtain ⟨⟨Lw, ew⟩, hwk⟩ : ∃ p, winK K0 cs ks fn cl = p := ⟨_, rfl⟩
    obtain ⟨Dw, hDw⟩ : ∃ d, Lw.map i64c = d := ⟨_, rfl⟩
    have hwin : decide (op = 10) = true → PCall Tryz.prog 38 [.ip [.int .i64 op, .str tb, .sl E, .sl C, .sl K, .sl A, .int .i64 fn, .int .i64 cl, .int .i64 n, .int .i64 off, .sl R], .sl M0] fun r => r = [.sl Dw, .int .i64 ew] := by
      intro h
      have h7 := window_c op tb E C K A R fn cl n off K0 M0 hM0 (by omega) cs ks hC hK hwC hwK (hp.win (of_decide_eq_true h)).2 Lw ew hwk
      rw [hDw] at h7; exact h7
    have hkc := keyColumns_c ks K hK hwK
    obtain ⟨KL, hKL⟩ : ∃ l, (ks.map (·.1)).map i64c = l := ⟨_, rfl⟩
    rw [hKL] at hkc
    have hpst := fun k => past_c (ks.map (·.1)) k KL hKL (by rw [List.length_map]; omega)
    have hclp := clone_p hC (by omega)
    obtain ⟨z0, hz0, hzn, hzs⟩ := find_idx T tb
    unfold wideM at hbT
    have hfnd := indexT_c 29 [.ip [.ip [.int .i64 op, .str tb, .sl E, .sl C, .sl K, .sl A, .int .i64 fn, .int .i64 cl, .int .i64 n, .int .i64 off, .sl R]]] (fun t => decide (t.name = tb)) T CT hCT (by omega) (fun t _ => kinds1_c t.name _ _ op tb E C K A R fn cl n off)
    rw [hz0] at hfnd
    have hzr : decide (z0 < 0) = false → 0 ≤ z0 ∧ z0 < (T.length : Int) := fun h => by
      obtain ⟨t, _, _, h1, h2⟩ := hzs (of_decide_eq_false h)
      exact ⟨h1, h2⟩
    have hkk := hko
    rw [kindsOp] at hkk
    rw [hK0, he0, hF] at hkk
    have k1 : op = 1 → (match T.find? fun t => decide (t.name = tb) with | none => (([] : List Int), (8 : Int)) | some t => (t.cols.map (·.2), 0)) = (L, er) := fun h => by rw [if_pos h] at hkk; exact hkk
    have k12e : op = 12 → (cs, (0 : Int)) = (L, er) := fun h => by rw [if_neg (by omega), if_pos h] at hkk; exact hkk
    have k2 : op = 2 → (K0, condK K0 (.mk op0 m0 ⟨vk0, vn0, vs0⟩ ar0)) = (L, er) := fun h => by rw [if_neg (by omega), if_neg (by omega), if_pos h] at hkk; exact hkk
    have k3 : op = 3 → (Lp, ep) = (L, er) := fun h => by rw [if_neg (by omega), if_neg (by omega), if_neg (by omega), if_pos h, hpj] at hkk; exact hkk
    have k45 : op = 4 ∨ op = 5 → (F, if 32 < F.length then (1 : Int) else condK F (.mk op0 m0 ⟨vk0, vn0, vs0⟩ ar0)) = (L, er) := fun h => by rw [if_neg (by omega), if_neg (by omega), if_neg (by omega), if_neg (by omega), if_pos h] at hkk; exact hkk
    have k6 : op = 6 → (Lg, eg) = (L, er) := fun h => by rw [if_neg (by omega), if_neg (by omega), if_neg (by omega), if_neg (by omega), if_neg (by omega), if_pos h, hgk] at hkk; exact hkk
    have k8 : op = 8 ∨ op = 11 → (if (ins.all fun k => decide (k = K0)) = true then (K0, (0 : Int)) else ([], 4)) = (L, er) := fun h => by rw [if_neg (by omega), if_neg (by omega), if_neg (by omega), if_neg (by omega), if_neg (by omega), if_neg (by omega), if_pos h] at hkk; exact hkk
    have k9 : op = 9 → (if pastM (ks.map (·.1)) K0.length = true then (([] : List Int), (1 : Int)) else (K0, 0)) = (L, er) := fun h => by rw [if_neg (by omega), if_neg (by omega), if_neg (by omega), if_neg (by omega), if_neg (by omega), if_neg (by omega), if_neg (by omega), if_pos h] at hkk; exact hkk
    have k10 : op = 10 → (Lw, ew) = (L, er) := fun h => by rw [if_neg (by omega), if_neg (by omega), if_neg (by omega), if_neg (by omega), if_neg (by omega), if_neg (by omega), if_neg (by omega), if_neg (by omega), if_pos h, hwk] at hkk; exact hkk
    have k7 : ¬ op = 1 → ¬ op = 12 → ¬ op = 2 → ¬ op = 3 → ¬ (op = 4 ∨ op = 5) → ¬ op = 6 → ¬ (op = 8 ∨ op = 11) → ¬ op = 9 → ¬ op = 10 → (K0, (0 : Int)) = (L, er) := fun h1 h2 h3 h4 h5 h6 h7 h8 h9 => by rw [if_neg h1, if_neg h2, if_neg h3, if_neg h4, if_neg h5, if_neg h6, if_neg h7, if_neg h8, if_neg h9] at hkk; exact hkk
    have b2 : M0.length = K0.length := by rw [← hM0]; simp
    have b3 : MF.length = F.length := by rw [← hMF]; simp
    have b4 : C1.length = ins.length := by rw [← hC1']; simp
    clear hkk hko)
 all_goals
   (skip
    repeat' (first
      | (with_reducible refine Nm.mk ?_; intro z hz)
      | (with_reducible refine IfB.mk ?_ ?_ <;> (intro h; cases h))
      | (with_reducible refine Two.l ?_; refine Asm.mk ?_ ?_; focus (decide +kernel))
      | (with_reducible refine Two.r ?_)
      | (with_reducible refine TwoT.r ?_)
      | (with_reducible refine Asm.mk ?_ ?_; focus (show (_ : Bool) = true; kernel_rfl))
      | (with_reducible refine isCP hcp ?_; first | (refine xP hcp (hfnd) ?_; skip) | (refine xP hcp (hclp) ?_; skip) | (refine xP hcp (hkc) ?_; skip) | (refine bP hcp (hpst _) ?_; intro z hz) | (refine iP hcp (hcA) ?_; intro z hz) | (refine iP hcp (hcB) ?_; intro z hz) | (refine xP hcp (hprj) ?_; skip) | (refine xP hcp (hgrp (by assumption)) ?_; skip) | (refine xP hcp (hwin (by assumption)) ?_; skip) | (refine xP hcp (hcat (by first | exact .inl (by assumption) | exact .inr (by assumption))) ?_; skip))
      | (with_reducible refine isCC hcc ?_; first | (refine xA hcc (hfnd) rfl ?_; skip) | (refine xA hcc (hclp) rfl ?_; skip) | (refine xA hcc (hkc) rfl ?_; skip) | (refine bA hcc (hpst _) rfl ?_; intro z hz) | (refine iA hcc (hcA) rfl ?_; intro z hz) | (refine iA hcc (hcB) rfl ?_; intro z hz) | (refine xA hcc (hprj) rfl ?_; skip) | (refine xA hcc (hgrp (by assumption)) rfl ?_; skip) | (refine xA hcc (hwin (by assumption)) rfl ?_; skip) | (refine xA hcc (hcat (by first | exact .inl (by assumption) | exact .inr (by assumption))) rfl ?_; skip))
      | (with_reducible refine Ix.giv (Int.le_refl 0) (hx0 (by assumption) (by assumption)) rfl (by decide) ?_)
      | (with_reducible refine Ix.giv (Int.le_refl 0) (hxE (by first | exact .inl (by assumption) | exact .inr (.inl (by assumption)) | exact .inr (.inr (by assumption)))) rfl (by decide) ?_)
      | (with_reducible refine Ix.tb hCT (hzr (by assumption)).1 (hzr (by assumption)).2 ?_; intro nm cols rows CC RW hx hCC hRW)
      | (with_reducible refine Asm.mk2 ?_ ?_)
      | ((fail_if_success (with_reducible first | refine hQ _ ?_ | refine Side.mk ?_ | refine isCP hcp ?_ | refine isCC hcc ?_ | refine isLP hlp ?_ | refine Ix.mk ?_ | refine SIx.mk ?_ | refine SEx.mk ?_ | refine EIx.mk ?_ | refine RIx.mk ?_ | refine LkX.mk ?_ | show False | refine hR ?_ _ ?_ ?_ ?_ ?_ ?_ | refine hR2 ?_ _ ?_ ?_ ?_ ?_ ?_)); cbv))
    all_goals first
      | (have h1 : op = 1 := of_decide_eq_true (by assumption)
         have e := k1 h1
         rw [hzn (of_decide_eq_true (by assumption))] at e
         simp only [Prod.mk.injEq] at e
         refine hQ _ ?_
         rw [← e.1, ← e.2]; rfl)
      | (have h1 : op = 12 := of_decide_eq_true (by assumption)
         have e := k12e h1
         simp only [Prod.mk.injEq] at e
         refine hQ _ ?_
         rw [← e.1, ← e.2, hC])
      | (have h1 : op = 2 := of_decide_eq_true (by assumption)
         have e := k2 h1
         simp only [Prod.mk.injEq] at e
         refine hQ _ ?_
         rw [← e.1, ← e.2, hM0, hz])
      | (have h1 : op = 3 := of_decide_eq_true (by assumption)
         have e := k3 h1
         simp only [Prod.mk.injEq] at e
         refine hQ _ ?_
         rw [← e.1, ← e.2, hDp])
      | (have h1 : op = 6 := of_decide_eq_true (by assumption)
         have e := k6 h1
         simp only [Prod.mk.injEq] at e
         refine hQ _ ?_
         rw [← e.1, ← e.2, hDg])
      | (have h1 : op = 10 := of_decide_eq_true (by assumption)
         have e := k10 h1
         simp only [Prod.mk.injEq] at e
         refine hQ _ ?_
         rw [← e.1, ← e.2, hDw])
      | (have h1 : op = 9 := of_decide_eq_true (by assumption)
         have e := k9 h1
         have hz1 : ∀ {z : Int} {b : Bool}, pastM (ks.map (·.1)) z = b → (M0.length : Int) = z → pastM (ks.map (·.1)) K0.length = b := by rintro z b h rfl; rw [← h, b2]
         have hb := hz1 (by assumption) (by assumption)
         first
           | (rw [if_pos hb] at e
              simp only [Prod.mk.injEq] at e
              refine hQ _ ?_
              rw [← e.1, ← e.2]; rfl)
           | (rw [if_neg (by rw [hb]; decide)] at e
              simp only [Prod.mk.injEq] at e
              refine hQ _ ?_
              rw [← e.1, ← e.2, hM0]))
      | (have h1 : op = 4 ∨ op = 5 := by first | exact .inl (of_decide_eq_true (by assumption)) | exact .inr (of_decide_eq_true (by assumption))
         have e := k45 h1
         have hz1 : (∀ {z : Int}, decide (32 < z) = true → (MF.length : Int) = z → 32 < F.length) ∧ (∀ {z : Int}, decide (32 < z) = false → (MF.length : Int) = z → ¬ 32 < F.length) := by
           constructor <;> (rintro z h rfl; simp only [decide_eq_true_eq, decide_eq_false_iff_not] at h; omega)
         first
           | (rw [if_pos (hz1.1 (by assumption) (by assumption))] at e
              simp only [Prod.mk.injEq] at e
              refine hQ _ ?_
              rw [← e.1, ← e.2, hMF])
           | (rw [if_neg (hz1.2 (by assumption) (by assumption))] at e
              simp only [Prod.mk.injEq] at e
              refine hQ _ ?_
              rw [← e.1, ← e.2, hMF]
              simp_all))
      | (have e := k7 (of_decide_eq_false (by assumption)) (of_decide_eq_false (by assumption)) (of_decide_eq_false (by assumption)) (of_decide_eq_false (by assumption)) (by rintro (h | h) <;> exact absurd h (of_decide_eq_false (by assumption))) (of_decide_eq_false (by assumption)) (by rintro (h | h) <;> exact absurd h (of_decide_eq_false (by assumption))) (of_decide_eq_false (by assumption)) (of_decide_eq_false (by assumption))
         simp only [Prod.mk.injEq] at e
         refine hQ _ ?_
         rw [← e.1, ← e.2, hM0])
      | skip
    all_goals first
      | (have h1 : op = 1 := of_decide_eq_true (by assumption)
         obtain ⟨t, ht1, ht2, _, _⟩ := hzs (of_decide_eq_false (by assumption))
         have e := k1 h1
         rw [ht2] at e
         rw [hx] at ht1
         simp only [Option.some.injEq] at ht1
         subst ht1
         simp only [Prod.mk.injEq] at e
         have hlc : CC.length = cols.length := by rw [← hCC]; simp
         have hwc : cols.length * 24 ≤ 140737488351232 := (hwT _ (List.mem_of_getElem? hx)).2.1
         simp only [nc] at hz
         simp only [nc'] at hz
         have hyl := lenZ hlc hz
         clear hz
         generalize z = yl at *
         refine mintT hlp 1 11 rfl ?_
         refine loopT (ι := Int × List (List PV) × Nat) mixed tt_ok hcp hcc hlp [60, 61] (fun p => [(11, .tok 2 p.2.1), (62, .p (.int .i64 p.1))]) (fun p => [.gone, .spare m1 1, .spare p.2.2 1])
           (fun p => Rng cols.length yl p.1 ∧ ((cols.take p.1.toNat).map (·.2)).map i64c = p.2.1 ∧ p.2.1.length = p.2.2) (fun p => (yl - p.1).toNat) (0, [], 0) 3 (fun _ => rfl) ⟨Rng.start hyl (by omega), rfl, rfl⟩ ⟨rfl, rfl, trivial⟩ rfl ?_
         rintro R3 ⟨j, C4, m4⟩ ⟨rj, hC4, hm4⟩ hR
         replace rj : Rng cols.length yl j := rj
         replace hC4 : ((cols.take j.toNat).map (·.2)).map i64c = C4 := hC4
         replace hm4 : C4.length = m4 := hm4
         have hok4 : okEs 1 C4 = true := by rw [← hC4]; exact ok_map _
         have hcl : C4.length = j.toNat ∧ (decide (j < yl) = true → j.toNat + 1 ≤ cols.length) := by
           refine ⟨by rw [← hC4, List.length_map, List.length_map, List.length_take]; have := rj.hi; have := rj.len; omega, fun h => by have := rj.ltN h; omega⟩
         repeat' (first
           | (with_reducible refine Nm.mk ?_; intro z hz)
           | (with_reducible refine IfB.mk ?_ ?_ <;> (intro h; cases h))
           | (with_reducible refine Two.l ?_; refine Asm.mk ?_ ?_; focus (decide +kernel))
           | (with_reducible refine Two.r ?_)
           | (with_reducible refine TwoT.r ?_)
           | (with_reducible refine Asm.mk ?_ ?_; focus (first | (have := hcl.2 (by assumption); have := hcl.1; refine ⟨hm4.symm, rfl, hok4, rfl, ?_, ?_⟩ <;> (clear hR hQ; simp only [List.length_cons, List.length_nil, maxLen]; omega)) | (show (_ : Bool) = true; kernel_rfl)))
           | (with_reducible refine Ix.cl hCC rj.lo (rj.lt (by assumption)) ?_; intro nm2 k2' hy)
           | (with_reducible refine Asm.mk2 ?_ ?_)
           | ((fail_if_success (with_reducible first | refine hQ _ ?_ | refine Side.mk ?_ | refine isCP hcp ?_ | refine isCC hcc ?_ | refine isLP hlp ?_ | refine Ix.mk ?_ | refine SIx.mk ?_ | refine SEx.mk ?_ | refine EIx.mk ?_ | refine RIx.mk ?_ | refine LkX.mk ?_ | show False | refine hR ?_ _ ?_ ?_ ?_ ?_ ?_ | refine hR2 ?_ _ ?_ ?_ ?_ ?_ ?_)); cbv))
         · have hlt : decide (j < yl) = true := by assumption
           rename_i L3 hL3 m3 hm3
           rw [rj.wrap hlt] at hz
           refine hR (j + 1, L3, m3) _ ⟨rj.next hlt, ?_, by show L3.length = m3; rw [← hL3, ← hm3, List.length_append]⟩ (rj.less hlt) ⟨rfl, hz ▸ rfl, trivial⟩ ⟨rfl, rfl, trivial⟩ rfl
           show ((cols.take (j + 1).toNat).map (·.2)).map i64c = L3
           rw [rj.take hy, List.map_append, List.map_append, hC4, ← hL3]
           rfl
         · refine hQ _ ?_
           rw [← e.1, ← e.2, ← hC4, rj.take_ rfl (by assumption)])
      | (have h1 : op = 8 ∨ op = 11 := by first | exact .inl (of_decide_eq_true (by assumption)) | exact .inr (of_decide_eq_true (by assumption))
         have hd1 : decide (op = 1) = false := by assumption
         have hd12 : decide (op = 12) = false := by assumption
         have hxx := hx0 hd1 hd12
         have e := k8 h1
         obtain ⟨ua, hua⟩ : ∃ b, (ins.all fun k => decide (k = K0)) = b := ⟨_, rfl⟩
         rw [hua] at e
         simp only [nc] at hz
         simp only [nc'] at hz
         have hyl := lenZ b4 hz
         clear hz
         generalize z = yl at *
         unfold wideM at hwR
         refine loopK (ι := Int) mixed tt_ok hcp hcc hlp [6, 134, 135] (fun j => [(136, .p (.int .i64 j))]) (fun j => Rng ins.length yl j ∧ ((ins.drop j.toNat).all fun k => decide (k = K0)) = ua) (fun j => (yl - j).toNat) 0 (fun _ => rfl) ⟨Rng.start hyl (by omega), hua⟩ ⟨rfl, trivial⟩ ?_
         rintro R3 j ⟨rj, hg⟩ hR
         have hbad : ∀ x, ins[j.toNat]? = some x → decide (x = K0) = false → ua = false := by
           intro x hx h; rw [← hg, rj.step hx, List.all_cons, h]; rfl
         have hgd2 : ∀ x, ins[j.toNat]? = some x → decide (x = K0) = true → ((ins.drop (j + 1).toNat).all fun k => decide (k = K0)) = ua := by
           intro x hx h; rw [← hg, rj.step hx, List.all_cons, h]; rfl
         have hout2 : decide (j < yl) = false → ua = true := by
           intro h; rw [← hg, rj.end_ rfl h]; rfl
         have heq : ∀ {x : List Int} {M : List (List PV)}, ins[j.toNat]? = some x → x.map i64c = M → PCall Tryz.prog 35 [.sl M, .sl M0] fun r => r = [.bool (decide (x = K0))] := fun {x} {M} hx hM => equal_c x K0 M M0 hM hM0 (by have := (hgd _ (List.mem_of_getElem? hx)).2; omega)
         repeat' (first
           | (with_reducible refine Nm.mk ?_; intro z hz)
           | (with_reducible refine IfB.mk ?_ ?_ <;> (intro h; cases h))
           | (with_reducible refine Two.l ?_; refine Asm.mk ?_ ?_; focus (decide +kernel))
           | (with_reducible refine Two.r ?_)
           | (with_reducible refine TwoT.r ?_)
           | (with_reducible refine Asm.mk ?_ ?_; focus (show (_ : Bool) = true; kernel_rfl))
           | (with_reducible refine isCP hcp ?_; first | (refine bP hcp (heq hy hMy) ?_; intro z hz))
           | (with_reducible refine isCC hcc ?_; first | (refine bA hcc (heq hy hMy) rfl ?_; intro z hz))
           | (with_reducible refine Ix.ri hC1' rj.lo (rj.lt (by assumption)) ?_; intro y My hy hMy)
           | (with_reducible refine Ix.giv (Int.le_refl 0) hxx rfl (by decide) ?_)
           | (with_reducible refine Asm.mk2 ?_ ?_)
           | ((fail_if_success (with_reducible first | refine hQ _ ?_ | refine Side.mk ?_ | refine isCP hcp ?_ | refine isCC hcc ?_ | refine isLP hlp ?_ | refine Ix.mk ?_ | refine SIx.mk ?_ | refine SEx.mk ?_ | refine EIx.mk ?_ | refine RIx.mk ?_ | refine LkX.mk ?_ | show False | refine hR ?_ _ ?_ ?_ ?_ ?_ ?_ | refine hR2 ?_ _ ?_ ?_ ?_ ?_ ?_)); cbv))
         all_goals first
           | (have hu := hout2 (by assumption)
              rw [if_pos hu] at e
              simp only [Prod.mk.injEq] at e
              refine hQ _ ?_
              rw [← e.1, ← e.2, hM0]
              done)
           | (have hu := hbad _ hy (by clear hR hQ hcp hcc hlp hbad hgd2 hout2 heq; simp_all)
              rw [if_neg (by rw [hu]; decide)] at e
              simp only [Prod.mk.injEq] at e
              refine hQ _ ?_
              rw [← e.1, ← e.2]; rfl)
           | (have hlt : decide (j < yl) = true := by assumption
              rw [rj.wrap hlt] at hz
              exact hR (j + 1) _ ⟨rj.next hlt, hgd2 _ hy (by rename_i zb hzb hzn; rw [hzb]; simpa using hzn)⟩ (rj.less hlt) ⟨hz ▸ rfl, trivial⟩ ⟨rfl, rfl, rfl, trivial⟩ rfl)))
end Go.Proofs.YtlabphnonlicdaaGreat

namespace Go.Proofs.YtlabphnonlicdaaGreat
open Go Go.RowKit
set_option maxRecDepth 100000
set_option linter.unusedSimpArgs false
set_option linter.unusedVariables false
theorem kinds_all (T : List Tb) (CT : List (List PV)) (hCT : T.map Tb.cells = CT) (hT : schM [] T = true) (hbT : wideM 24 T.length) (hwT : ∀ t, t ∈ T → t.wide) : ∀ (m : Nat) (p : Pl), p.sz ≤ m → p.wide → builtP p = true → KindsC T CT p
 | 0, .mk op tb es cs ks ag fn cl n off ar, h, _, _ => by simp [Pl.sz] at h
 | m + 1, .mk op tb es cs ks ag fn cl n off ar, h, hw, hb => by
   intro cells hc
   rw [pcells_mk] at hc
   subst hc
   refine kinds_c T CT hCT hT hbT hwT op tb es _ _ _ _ _ fn cl n off cs ks ag ar rfl rfl rfl rfl rfl hw (plOk hb) fun x hx => kinds_all T CT hCT hT hbT hwT m x ?_ (by rw [Pl.wide] at hw; exact wideP_mem hw.2 hx) ((plOk hb).sub x hx)
   have := szP_mem hx
   simp only [Pl.sz] at h; omega
theorem check_all (T : List Tb) (CT : List (List PV)) (hCT : T.map Tb.cells = CT) (hT : schM [] T = true) (hbT : wideM 24 T.length) (hwT : ∀ t, t ∈ T → t.wide) : ∀ (m : Nat) (p : Pl), p.sz ≤ m → p.wide → builtP p = true → CheckC T CT p
 | 0, .mk op tb es cs ks ag fn cl n off ar, h, _, _ => by simp [Pl.sz] at h
 | m + 1, .mk op tb es cs ks ag fn cl n off ar, h, hw, hb => by
   intro cells hc
   rw [pcells_mk] at hc
   subst hc
   refine check_c T CT hCT hT hbT hwT op tb es _ _ _ _ _ fn cl n off cs ks ag ar rfl rfl rfl rfl rfl hw (plOk hb) fun x hx => check_all T CT hCT hT hbT hwT m x ?_ (by rw [Pl.wide] at hw; exact wideP_mem hw.2 hx) ((plOk hb).sub x hx)
   have := szP_mem hx
   simp only [Pl.sz] at h; omega
def chkP (T : List Tb) (p : Pl) : List Int × Int :=
 if sizeOK p = false then ([], 3) else if builtP p = false then ([], 1) else if schM [] T = false then ([], 1) else
   if (kindsP T p).2 = 0 then ((kindsP T p).1, 0) else ([], (kindsP T p).2)
def preP (p : Pl) : Int := if sizeOK p = false then 3 else if builtP p = false then 1 else 0
theorem preP_built {p : Pl} (h : preP p = 0) : builtP p = true := by
 unfold preP at h
 split at h
 · cases h
 · split at h
   · cases h
   · rename_i h1; simpa using h1
theorem chkP_pre {p : Pl} (T : List Tb) (h : ¬ preP p = 0) : chkP T p = ([], preP p) := by
 unfold preP at *
 unfold chkP
 split
 · rfl
 · rename_i h1
   split
   · rfl
   · rename_i h2; rw [if_neg h1, if_neg h2] at h; exact absurd rfl h
theorem chkP_sch {p : Pl} (T : List Tb) (h : preP p = 0) (hs : schM [] T = false) : chkP T p = ([], 1) := by
 unfold preP at h
 unfold chkP
 split at h
 · cases h
 · rename_i h1
   split at h
   · cases h
   · rename_i h2; rw [if_neg h1, if_neg h2, if_pos hs]
theorem chkP_kinds {p : Pl} (T : List Tb) (h : preP p = 0) (hs : schM [] T = true) : chkP T p = if (kindsP T p).2 = 0 then ((kindsP T p).1, 0) else ([], (kindsP T p).2) := by
 unfold preP at h
 unfold chkP
 split at h
 · cases h
 · rename_i h1
   split at h
   · cases h
   · rename_i h2; rw [if_neg h1, if_neg h2, if_neg (by rw [hs]; decide)]
theorem eCheck_c (T : List Tb) (CT : List (List PV)) (hCT : T.map Tb.cells = CT) (hbT : wideM 24 T.length) (hwT : ∀ t, t ∈ T → t.wide) (op : Int) (tb : ByteArray) (E C K A R : List (List PV)) (fn cl n0 off : Int) (p : Pl) (hc : p.cells = [.int .i64 op, .str tb, .sl E, .sl C, .sl K, .sl A, .int .i64 fn, .int .i64 cl, .int .i64 n0, .int .i64 off, .sl R]) (hw : p.wide) :
   PCall Tryz.prog 5 [.agg [.int .i64 op, .str tb, .sl E, .sl C, .sl K, .sl A, .int .i64 fn, .int .i64 cl, .int .i64 n0, .int .i64 off, .sl R], .sl CT] fun r => r = [.sl ((chkP T p).1.map i64c), .int .i64 (chkP T p).2] := by
 have h1 : PCall Tryz.prog 9 [.agg [.int .i64 op, .str tb, .sl E, .sl C, .sl K, .sl A, .int .i64 fn, .int .i64 cl, .int .i64 n0, .int .i64 off, .sl R]] fun r => r = [.int .i64 (preP p)] := eBuilt_c op tb E C K A R fn cl n0 off p hc hw
 have h2 := schema_c T CT hCT hbT hwT
 have h3 : preP p = 0 → schM [] T = true → PCall Tryz.prog 16 [.ip [.int .i64 op, .str tb, .sl E, .sl C, .sl K, .sl A, .int .i64 fn, .int .i64 cl, .int .i64 n0, .int .i64 off, .sl R], .sl CT] fun r => r = [.sl ((kindsP T p).1.map i64c), .int .i64 (kindsP T p).2] := fun h hs =>
   kinds_all T CT hCT hs hbT hwT _ p (Nat.le_refl _) hw (preP_built h) _ hc
 have e1 := chkP_pre (p := p) T
 have e2 := chkP_sch (p := p) T
 have e3 := chkP_kinds (p := p) T
 have e4 := kindsQ_eq T p
 generalize chkP T p = r at *
 generalize preP p = c at *
 generalize schM [] T = sc at *
 generalize kindsP T p = kp at *
 generalize kindsQ T p = kq at *
 obtain ⟨L, e⟩ := r
 obtain ⟨K1, f1⟩ := kp
 obtain ⟨K2, f2⟩ := kq
 dsimp only at *
 obtain ⟨M1, hM1⟩ : ∃ m, K1.map i64c = m := ⟨_, rfl⟩
 obtain ⟨M2, hM2⟩ : ∃ m, K2.map i64c = m := ⟨_, rfl⟩
 try rw [hM1] at h3
 try rw [hM2] at h3
 clear hc hCT
 have h4 := fun (q1 : (!decide (c = 0)) = false) (q2 : (!sc) = false) => h3 (by simpa using q1) (by simpa using q2)
 clear h3
 refine PCall.x (nt := 26) (res := [.tmp 4, .tmp 5]) mixed tt_ok [(16, [0])] Tryz.func5 rfl rfl rfl c5 (Nat.le_of_ble_eq_true rfl) ?_
 intro cp cc lp Q' hcp hcc hlp hQ
 repeat' (first
   | (with_reducible refine Nm.mk ?_; intro z hz)
   | (with_reducible refine IfB.mk ?_ ?_ <;> (intro h; cases h))
   | (with_reducible refine Two.l ?_; refine Asm.mk ?_ ?_; focus (decide +kernel))
   | (with_reducible refine Two.r ?_)
   | (with_reducible refine TwoT.r ?_)
   | (with_reducible refine Asm.mk ?_ ?_; focus (first | kernel_rfl | decide))
   | (with_reducible refine isCP hcp ?_; first | (refine xP hcp (h1) ?_; skip) | (refine xP hcp (h2) ?_; skip) | (refine xP hcp (h4 (by assumption) (by assumption)) ?_; skip))
   | (with_reducible refine isCC hcc ?_; first | (refine xA hcc (h1) rfl ?_; skip) | (refine xA hcc (h2) rfl ?_; skip) | (refine xA hcc (h4 (by assumption) (by assumption)) rfl ?_; skip))
   | (with_reducible refine Asm.mk2 ?_ ?_)
   | ((fail_if_success (with_reducible first | refine hQ _ ?_ | refine Side.mk ?_ | refine isCP hcp ?_ | refine isCC hcc ?_ | refine isLP hlp ?_ | refine Ix.mk ?_ | refine SIx.mk ?_ | refine SEx.mk ?_ | refine EIx.mk ?_ | refine RIx.mk ?_ | refine LkX.mk ?_ | show False | refine hR ?_ _ ?_ ?_ ?_ ?_ ?_ | refine hR2 ?_ _ ?_ ?_ ?_ ?_ ?_)); cbv))
 all_goals
   (refine hQ _ ?_
    clear hQ hcp hcc hlp h1 h2 h4 hbT hwT hw
    subst hM1 hM2
    simp_all)
theorem eRCheck_c (T : List Tb) (CT : List (List PV)) (hCT : T.map Tb.cells = CT) (hbT : wideM 24 T.length) (hwT : ∀ t, t ∈ T → t.wide) (op : Int) (tb : ByteArray) (E C K A R : List (List PV)) (fn cl n0 off : Int) (p : Pl) (hc : p.cells = [.int .i64 op, .str tb, .sl E, .sl C, .sl K, .sl A, .int .i64 fn, .int .i64 cl, .int .i64 n0, .int .i64 off, .sl R]) (hw : p.wide) :
   PCall Tryz.prog 6 [.agg [.int .i64 op, .str tb, .sl E, .sl C, .sl K, .sl A, .int .i64 fn, .int .i64 cl, .int .i64 n0, .int .i64 off, .sl R], .sl CT] fun r => r = [.sl ((chkP T p).1.map i64c), .int .i64 (chkP T p).2] := by
 have h1 : PCall Tryz.prog 10 [.agg [.int .i64 op, .str tb, .sl E, .sl C, .sl K, .sl A, .int .i64 fn, .int .i64 cl, .int .i64 n0, .int .i64 off, .sl R]] fun r => r = [.int .i64 (preP p)] := eRBuilt_c op tb E C K A R fn cl n0 off p hc hw
 have h2 := rschema_c T CT hCT hbT hwT
 have h3 : preP p = 0 → schM [] T = true → PCall Tryz.prog 17 [.agg [.int .i64 op, .str tb, .sl E, .sl C, .sl K, .sl A, .int .i64 fn, .int .i64 cl, .int .i64 n0, .int .i64 off, .sl R], .sl CT] fun r => r = [.sl ((kindsQ T p).1.map i64c), .int .i64 (kindsQ T p).2] := fun h hs =>
   check_all T CT hCT hs hbT hwT _ p (Nat.le_refl _) hw (preP_built h) _ hc
 have e1 := chkP_pre (p := p) T
 have e2 := chkP_sch (p := p) T
 have e3 := chkP_kinds (p := p) T
 have e4 := kindsQ_eq T p
 generalize chkP T p = r at *
 generalize preP p = c at *
 generalize schM [] T = sc at *
 generalize kindsP T p = kp at *
 generalize kindsQ T p = kq at *
 obtain ⟨L, e⟩ := r
 obtain ⟨K1, f1⟩ := kp
 obtain ⟨K2, f2⟩ := kq
 dsimp only at *
 obtain ⟨M1, hM1⟩ : ∃ m, K1.map i64c = m := ⟨_, rfl⟩
 obtain ⟨M2, hM2⟩ : ∃ m, K2.map i64c = m := ⟨_, rfl⟩
 try rw [hM1] at h3
 try rw [hM2] at h3
 clear hc hCT
 have h4 := fun (q1 : (!decide (c = 0)) = false) (q2 : (!sc) = false) => h3 (by simpa using q1) (by simpa using q2)
 clear h3
 refine PCall.x (nt := 27) (res := [.tmp 4, .tmp 5]) mixed tt_ok [(16, [0])] Tryz.func6 rfl rfl rfl c6 (Nat.le_of_ble_eq_true rfl) ?_
 intro cp cc lp Q' hcp hcc hlp hQ
 repeat' (first
   | (with_reducible refine Nm.mk ?_; intro z hz)
   | (with_reducible refine IfB.mk ?_ ?_ <;> (intro h; cases h))
   | (with_reducible refine Two.l ?_; refine Asm.mk ?_ ?_; focus (decide +kernel))
   | (with_reducible refine Two.r ?_)
   | (with_reducible refine TwoT.r ?_)
   | (with_reducible refine Asm.mk ?_ ?_; focus (first | kernel_rfl | decide))
   | (with_reducible refine isCP hcp ?_; first | (refine xP hcp (h1) ?_; skip) | (refine xP hcp (h2) ?_; skip) | (refine xP hcp (h4 (by assumption) (by assumption)) ?_; skip))
   | (with_reducible refine isCC hcc ?_; first | (refine xA hcc (h1) rfl ?_; skip) | (refine xA hcc (h2) rfl ?_; skip) | (refine xA hcc (h4 (by assumption) (by assumption)) rfl ?_; skip))
   | (with_reducible refine Asm.mk2 ?_ ?_)
   | ((fail_if_success (with_reducible first | refine hQ _ ?_ | refine Side.mk ?_ | refine isCP hcp ?_ | refine isCC hcc ?_ | refine isLP hlp ?_ | refine Ix.mk ?_ | refine SIx.mk ?_ | refine SEx.mk ?_ | refine EIx.mk ?_ | refine RIx.mk ?_ | refine LkX.mk ?_ | show False | refine hR ?_ _ ?_ ?_ ?_ ?_ ?_ | refine hR2 ?_ _ ?_ ?_ ?_ ?_ ?_)); cbv))
 all_goals
   (refine hQ _ ?_
    clear hQ hcp hcc hlp h1 h2 h4 hbT hwT hw
    subst hM1 hM2
    simp_all)
end Go.Proofs.YtlabphnonlicdaaGreat

namespace Go.Proofs.YtlabphnonlicdaaGreat
open Go Go.RowKit
set_option maxRecDepth 100000
set_option linter.unusedSimpArgs false
set_option linter.unusedVariables false
theorem pnum_c (n : Int) : PCall Tryz.prog 7 [.int .i64 n] fun r => r = [.int .i64 n] := by
 refine PCall.x (nt := 4) (res := [.tmp 2]) mixed tt_ok [] Tryz.func7 rfl rfl rfl c7 (Nat.le_of_ble_eq_true rfl) ?_
 intro cp cc lp Q' hcp hcc hlp hQ
 repeat' (first
   | (with_reducible refine Nm.mk ?_; intro z hz)
   | (with_reducible refine IfB.mk ?_ ?_ <;> (intro h; cases h))
   | (with_reducible refine Two.l ?_; refine Asm.mk ?_ ?_; focus (decide +kernel))
   | (with_reducible refine Two.r ?_)
   | (with_reducible refine TwoT.r ?_)
   | (with_reducible refine Asm.mk ?_ ?_; focus (first | kernel_rfl | decide))
   | (with_reducible refine Asm.mk2 ?_ ?_)
   | ((fail_if_success (with_reducible first | refine hQ _ ?_ | refine Side.mk ?_ | refine isCP hcp ?_ | refine isCC hcc ?_ | refine isLP hlp ?_ | refine Ix.mk ?_ | refine SIx.mk ?_ | refine SEx.mk ?_ | refine EIx.mk ?_ | refine RIx.mk ?_ | refine LkX.mk ?_ | show False | refine hR ?_ _ ?_ ?_ ?_ ?_ ?_ | refine hR2 ?_ _ ?_ ?_ ?_ ?_ ?_)); cbv))
 all_goals (refine hQ _ ?_; clear hQ hcp hcc hlp; subst_vars; simp_all [])
theorem chkP_len {T : List Tb} (p : Pl) (hw : ∀ t, t ∈ T → t.wide) : (chkP T p).1.length ≤ 32 := by
 unfold chkP
 split
 · exact Nat.zero_le _
 · split
   · exact Nat.zero_le _
   · rename_i hb
     split
     · exact Nat.zero_le _
     · rename_i hs
       split
       · rename_i hk
         exact (kindsP_good (by simpa using hs) p (by simpa using hb) hk).2
       · exact Nat.zero_le _
theorem planChecks_c (T : List Tb) (CT : List (List PV)) (hCT : T.map Tb.cells = CT) (hbT : wideM 24 T.length) (hwT : ∀ t, t ∈ T → t.wide) (op : Int) (tb : ByteArray) (E C K A R : List (List PV)) (fn cl n0 off : Int) (p : Pl) (hc : p.cells = [.int .i64 op, .str tb, .sl E, .sl C, .sl K, .sl A, .int .i64 fn, .int .i64 cl, .int .i64 n0, .int .i64 off, .sl R]) (hw : p.wide) :
   PCall Tryz.prog 3 [.agg [.int .i64 op, .str tb, .sl E, .sl C, .sl K, .sl A, .int .i64 fn, .int .i64 cl, .int .i64 n0, .int .i64 off, .sl R], .sl CT] fun r => r = [.bool true] := by
 have h1 := eCheck_c T CT hCT hbT hwT op tb E C K A R fn cl n0 off p hc hw
 have h2 := eRCheck_c T CT hCT hbT hwT op tb E C K A R fn cl n0 off p hc hw
 have h3 := tables_c T CT hCT hbT hwT
 have h4 := good_c T CT hCT hbT hwT
 have h5 := eBuilt_c op tb E C K A R fn cl n0 off p hc hw
 have h6 := eRBuilt_c op tb E C K A R fn cl n0 off p hc hw
 have hl := chkP_len p hwT
 generalize chkP T p = r at *
 obtain ⟨L, e⟩ := r
 obtain ⟨M, hM⟩ : ∃ m, L.map i64c = m := ⟨_, rfl⟩
 dsimp only at *
 rw [hM] at h1 h2
 have h7 := sameN_c L L M M hM hM (by omega)
 rw [decide_eq_true rfl] at h7
 obtain ⟨c, hc1⟩ : ∃ c, (if sizeOK p = false then (3 : Int) else if builtP p = false then 1 else 0) = c := ⟨_, rfl⟩
 rw [hc1] at h5 h6
 obtain ⟨g, hg⟩ : ∃ g, goodTM T = g := ⟨_, rfl⟩
 rw [hg] at h3 h4
 have n1 := pnum_c c
 have n2 := pnum_c e
 have n3 := pnum_c (if g = true then 0 else 1)
 clear hc1 hg hM hc hCT
 cases g
 all_goals
   (simp only [if_pos, Bool.false_eq_true, if_false] at h4 n3
    refine PCall.x (nt := 49) (res := [.tmp 4]) mixed tt_ok [] Tryz.func3 rfl rfl rfl c3 (Nat.le_of_ble_eq_true rfl) ?_
    intro cp cc lp Q' hcp hcc hlp hQ
    repeat' (first
      | (with_reducible refine Nm.mk ?_; intro z hz)
      | (with_reducible refine IfB.mk ?_ ?_ <;> (intro h; cases h))
      | (with_reducible refine Two.l ?_; refine Asm.mk ?_ ?_; focus (decide +kernel))
      | (with_reducible refine Two.r ?_)
      | (with_reducible refine TwoT.r ?_)
      | (with_reducible refine Asm.mk ?_ ?_; focus (first | kernel_rfl | decide))
      | (with_reducible refine isCP hcp ?_; first | (refine bP hcp (h3) ?_; intro z hz) | (refine xP hcp (h4) ?_; skip) | (refine xP hcp (n3) ?_; skip) | (refine xP hcp (h1) ?_; skip) | (refine xP hcp (h2) ?_; skip) | (refine xP hcp (h5) ?_; skip) | (refine xP hcp (h6) ?_; skip) | (refine xP hcp (n1) ?_; skip) | (refine xP hcp (n2) ?_; skip) | (refine bP hcp (h7) ?_; intro z hz))
      | (with_reducible refine isCC hcc ?_; first | (refine bA hcc (h3) rfl ?_; intro z hz) | (refine xA hcc (h4) rfl ?_; skip) | (refine xA hcc (n3) rfl ?_; skip) | (refine xA hcc (h1) rfl ?_; skip) | (refine xA hcc (h2) rfl ?_; skip) | (refine xA hcc (h5) rfl ?_; skip) | (refine xA hcc (h6) rfl ?_; skip) | (refine xA hcc (n1) rfl ?_; skip) | (refine xA hcc (n2) rfl ?_; skip) | (refine bA hcc (h7) rfl ?_; intro z hz))
      | (with_reducible refine Asm.mk2 ?_ ?_)
      | ((fail_if_success (with_reducible first | refine hQ _ ?_ | refine Side.mk ?_ | refine isCP hcp ?_ | refine isCC hcc ?_ | refine isLP hlp ?_ | refine Ix.mk ?_ | refine SIx.mk ?_ | refine SEx.mk ?_ | refine EIx.mk ?_ | refine RIx.mk ?_ | refine LkX.mk ?_ | show False | refine hR ?_ _ ?_ ?_ ?_ ?_ ?_ | refine hR2 ?_ _ ?_ ?_ ?_ ?_ ?_)); cbv))
    all_goals (refine hQ _ ?_; clear hQ hcp hcc hlp h1 h2 h3 h4 h5 h6 h7 n1 n2 n3 hbT hwT hw; subst_vars; simp_all))
end Go.Proofs.YtlabphnonlicdaaGreat

namespace Go.Proofs.YtlabphnonlicdaaGreat
open Go Go.RowKit
set_option maxRecDepth 100000
set_option linter.unusedVariables false
theorem reach_eq : reachBytes = 140737488351232 := by decide
theorem cells28 : Tryz.prog.cellsOf 28 = 11 := by kernel_rfl
theorem cellsx4 : Tryz.prog.cellsOf 4 = 1 := by kernel_rfl
theorem cellsx22 : Tryz.prog.cellsOf 22 = 1 := by kernel_rfl
theorem cellsx23 : Tryz.prog.cellsOf 23 = 1 := by kernel_rfl
theorem cellsx24 : Tryz.prog.cellsOf 24 = 1 := by kernel_rfl
theorem cellsx25 : Tryz.prog.cellsOf 25 = 1 := by kernel_rfl
theorem cellsx26 : Tryz.prog.cellsOf 26 = 1 := by kernel_rfl
theorem cellsx42 : Tryz.prog.cellsOf 42 = 1 := by kernel_rfl
theorem cellsx43 : Tryz.prog.cellsOf 43 = 1 := by kernel_rfl
theorem cellsx45 : Tryz.prog.cellsOf 45 = 3 := by kernel_rfl
theorem cellsx55 : Tryz.prog.cellsOf 55 = 2 := by kernel_rfl
theorem cellsx96 : Tryz.prog.cellsOf 96 = 2 := by kernel_rfl
theorem cellsx99 : Tryz.prog.cellsOf 99 = 2 := by kernel_rfl
theorem bytesx70 : Tryz.prog.bytesOf 70 = 72 := by kernel_rfl
theorem bytesx3 : Tryz.prog.bytesOf 3 = 8 := by kernel_rfl
theorem bytesx99 : Tryz.prog.bytesOf 99 = 16 := by kernel_rfl
theorem bytesx96 : Tryz.prog.bytesOf 96 = 16 := by kernel_rfl
theorem bytesx28 : Tryz.prog.bytesOf 28 = 176 := by kernel_rfl
theorem bytesx45 : Tryz.prog.bytesOf 45 = 64 := by kernel_rfl
theorem bytesx46 : Tryz.prog.bytesOf 46 = 24 := by kernel_rfl
theorem bytesx52 : Tryz.prog.bytesOf 52 = 32 := by kernel_rfl
theorem bytesx55 : Tryz.prog.bytesOf 55 = 24 := by kernel_rfl
theorem list_of {α : Type} {enc : α → List PV} {ok : α → Prop} {n b : Nat} {t e : TypeId} {x : PV} (h : Fits Tryz.prog n t [x]) (ht : Tryz.prog.underlying t = some (.slice e)) (hb : Tryz.prog.bytesOf e = b) (hp : ∀ m y, m < n → Fits Tryz.prog m e y → ∃ v, enc v = y ∧ ok v) :
   ∃ l : List α, x = .sl (l.map enc) ∧ l.length * b ≤ 140737488351232 ∧ ∀ v, v ∈ l → ok v := by
 obtain ⟨m, es, hm, h1, ⟨h2, h3⟩, h4⟩ := h.slice ht
 simp only [List.cons.injEq, and_true] at h1
 subst h1
 obtain ⟨l, rfl, hl⟩ := elems_of (enc := enc) (ok := ok) (fun x hx => hp m x (by omega) (h4 x hx).2)
 rw [hb, List.length_map, reach_eq] at h3
 exact ⟨l, rfl, h3, hl⟩
theorem cellsx70 : Tryz.prog.cellsOf 70 = 6 := by kernel_rfl
theorem wideL_of : ∀ {l : List Ex}, (∀ x, x ∈ l → x.wide) → wideL l
 | [], _ => trivial
 | e :: r, h => ⟨h e (by simp), wideL_of (fun x hx => h x (by simp [hx]))⟩
theorem exOf : ∀ (n : Nat) (cs : List PV), Fits Tryz.prog n 70 cs → ∃ e : Ex, e.cells = cs ∧ e.wide := by
 intro n
 induction n using Nat.strongRecOn with
 | _ n ih =>
   intro cs h
   obtain ⟨m, rfl, hl, hf⟩ := h.struct Tryz.underlying70
   rw [cellsx70] at hl
   obtain ⟨a, b, c, d, e, f, rfl⟩ : ∃ a b c d e f, cs = [a, b, c, d, e, f] := by
     match cs, hl with
     | [a, b, c, d, e, f], _ => exact ⟨a, b, c, d, e, f, rfl⟩
   have h0 : Fits Tryz.prog m 3 (([a, b, c, d, e, f].drop 0).take (Tryz.prog.cellsOf 3)) := hf 0 _ rfl
   have h1 : Fits Tryz.prog m 3 (([a, b, c, d, e, f].drop 1).take (Tryz.prog.cellsOf 3)) := hf 1 _ rfl
   have h2 : Fits Tryz.prog m 52 (([a, b, c, d, e, f].drop 2).take (Tryz.prog.cellsOf 52)) := hf 2 _ rfl
   have h3 : Fits Tryz.prog m 22 (([a, b, c, d, e, f].drop 5).take (Tryz.prog.cellsOf 22)) := hf 3 _ rfl
   rw [cells3] at h0 h1
   rw [cells25] at h2
   rw [cellsx22] at h3
   have h0 : Fits Tryz.prog m 3 [a] := h0
   have h1 : Fits Tryz.prog m 3 [b] := h1
   have h2 : Fits Tryz.prog m 52 [c, d, e] := h2
   obtain ⟨op, e0, _⟩ := h0.int Tryz.underlying3
   obtain ⟨nn, e1, _⟩ := h1.int Tryz.underlying3
   obtain ⟨v, e2, ov⟩ := cellsV h2
   obtain ⟨l, e3, w3, q3⟩ := list_of (x := f) (enc := Ex.cells) (ok := fun e => e.wide) h3 Tryz.underlying22 bytesx70 fun m' y hm hy => ih m' (by omega) y hy
   simp only [List.cons.injEq, and_true, Val.cells] at e0 e1 e2
   obtain ⟨rfl, rfl, rfl⟩ := e2
   subst e0 e1 e3
   refine ⟨.mk op nn v l, ?_, ⟨?_, ?_⟩⟩
   · rw [cells_mk]
   · unfold wideN; omega
   · exact wideL_of q3
theorem two_of {n : Nat} {t a b : TypeId} {cs : List PV} {fs : Array Field} (h : Fits Tryz.prog n t cs) (ht : Tryz.prog.underlying t = some (.struct fs)) (hc : Tryz.prog.cellsOf t = 2) (ha : Tryz.prog.cellsOf a = 1) (hb : Tryz.prog.cellsOf b = 1)
   (hfa : ∃ (i : Nat) (f : Field), fs[i]? = some f ∧ f.type = a ∧ f.offset = 0) (hfb : ∃ (i : Nat) (f : Field), fs[i]? = some f ∧ f.type = b ∧ f.offset = 1) : ∃ m x y, m < n ∧ cs = [x, y] ∧ Fits Tryz.prog m a [x] ∧ Fits Tryz.prog m b [y] := by
 obtain ⟨m, rfl, hl, hf⟩ := h.struct ht
 rw [hc] at hl
 obtain ⟨x, y, rfl⟩ : ∃ x y, cs = [x, y] := by
   match cs, hl with
   | [x, y], _ => exact ⟨x, y, rfl⟩
 obtain ⟨i, f, h1, rfl, h2⟩ := hfa
 obtain ⟨j, g, h3, rfl, h4⟩ := hfb
 have e1 := hf i f h1
 have e2 := hf j g h3
 rw [h2, ha] at e1
 rw [h4, hb] at e2
 exact ⟨m, x, y, by omega, rfl, e1, e2⟩
theorem key_of {n : Nat} {cs : List PV} (h : Fits Tryz.prog n 99 cs) : ∃ k : Int × Bool, keyc k = cs ∧ True := by
 obtain ⟨m, x, y, _, rfl, h1, h2⟩ := two_of h Tryz.underlying99 cellsx99 cells3 cellsx4 ⟨0, _, rfl, rfl, rfl⟩ ⟨1, _, rfl, rfl, rfl⟩
 obtain ⟨v, e, _⟩ := h1.int Tryz.underlying3
 obtain ⟨b, e2⟩ := h2.bool Tryz.underlying4
 simp only [List.cons.injEq, and_true] at e e2
 subst e e2
 exact ⟨(v, b), rfl, trivial⟩
theorem agg_of {n : Nat} {cs : List PV} (h : Fits Tryz.prog n 96 cs) : ∃ k : Int × Int, aggc k = cs ∧ True := by
 obtain ⟨m, x, y, _, rfl, h1, h2⟩ := two_of h Tryz.underlying96 cellsx96 cells3 cells3 ⟨0, _, rfl, rfl, rfl⟩ ⟨1, _, rfl, rfl, rfl⟩
 obtain ⟨v, e, _⟩ := h1.int Tryz.underlying3
 obtain ⟨b, e2, _⟩ := h2.int Tryz.underlying3
 simp only [List.cons.injEq, and_true] at e e2
 subst e e2
 exact ⟨(v, b), rfl, trivial⟩
theorem col_of {n : Nat} {cs : List PV} (h : Fits Tryz.prog n 55 cs) : ∃ k : ByteArray × Int, colc k = cs ∧ wideM 1 k.1.size := by
 obtain ⟨m, x, y, _, rfl, h1, h2⟩ := two_of h Tryz.underlying55 cellsx55 cells9 cells3 ⟨0, _, rfl, rfl, rfl⟩ ⟨1, _, rfl, rfl, rfl⟩
 obtain ⟨s, e, hs⟩ := h1.str Tryz.underlying9
 obtain ⟨b, e2, _⟩ := h2.int Tryz.underlying3
 simp only [List.cons.injEq, and_true] at e e2
 subst e e2
 rw [reach_eq] at hs
 exact ⟨(s, b), rfl, by unfold wideM; dsimp only; omega⟩
theorem num_of {n : Nat} {cs : List PV} (h : Fits Tryz.prog n 3 cs) : ∃ k : Int, i64c k = cs ∧ True := by
 obtain ⟨v, e, _⟩ := h.int Tryz.underlying3
 exact ⟨v, e.symm, trivial⟩
theorem row_of {n : Nat} {cs : List PV} (h : Fits Tryz.prog n 46 cs) : ∃ k : List Val, rowPc k = cs ∧ wideM 32 k.length := by
 obtain ⟨m, es, rfl, h1, ⟨h2, h3⟩, h4⟩ := h.slice Tryz.underlying46
 subst h1
 obtain ⟨l, rfl, hl⟩ := elems_of (fun x hx => cellsV (h4 x hx).2)
 rw [bytesx52, List.length_map, reach_eq] at h3
 exact ⟨l, rfl, h3⟩
theorem tab_of {n : Nat} {cs : List PV} (h : Fits Tryz.prog n 45 cs) : ∃ t : Tb, t.cells = cs ∧ t.wide := by
 obtain ⟨m, rfl, hl, hf⟩ := h.struct Tryz.underlying45
 rw [cellsx45] at hl
 obtain ⟨a, b, c, rfl⟩ : ∃ a b c, cs = [a, b, c] := by
   match cs, hl with
   | [a, b, c], _ => exact ⟨a, b, c, rfl⟩
 have h0 : Fits Tryz.prog m 9 (([a, b, c].drop 0).take (Tryz.prog.cellsOf 9)) := hf 0 _ rfl
 have h1 : Fits Tryz.prog m 42 (([a, b, c].drop 1).take (Tryz.prog.cellsOf 42)) := hf 1 _ rfl
 have h2 : Fits Tryz.prog m 43 (([a, b, c].drop 2).take (Tryz.prog.cellsOf 43)) := hf 2 _ rfl
 rw [cells9] at h0
 rw [cellsx42] at h1
 rw [cellsx43] at h2
 obtain ⟨s, e, hs⟩ := Fits.str (cs := [a]) h0 Tryz.underlying9
 obtain ⟨cl, e1, w1, q1⟩ := list_of (x := b) (enc := colc) h1 Tryz.underlying42 bytesx55 fun m y _ hy => col_of hy
 obtain ⟨rw_, e2, w2, q2⟩ := list_of (x := c) (enc := rowPc) h2 Tryz.underlying43 bytesx46 fun m y _ hy => row_of hy
 simp only [List.cons.injEq, and_true] at e
 subst e e1 e2
 rw [reach_eq] at hs
 exact ⟨⟨s, cl, rw_⟩, rfl, by unfold wideM; dsimp only; omega, w1, w2, q1, q2⟩
theorem wideLP_of : ∀ {l : List Pl}, (∀ x, x ∈ l → x.wide) → wideLP l
 | [], _ => trivial
 | e :: r, h => ⟨h e (by simp), wideLP_of (fun x hx => h x (by simp [hx]))⟩
theorem plOf : ∀ (n : Nat) (cs : List PV), Fits Tryz.prog n 28 cs → ∃ p : Pl, p.cells = cs ∧ p.wide := by
 intro n
 induction n using Nat.strongRecOn with
 | _ n ih =>
   intro cs h
   obtain ⟨m, rfl, hl, hf⟩ := h.struct Tryz.underlying28
   rw [cells28] at hl
   obtain ⟨a, b, c, d, e, f, g, i, j, k, o, rfl⟩ : ∃ a b c d e f g i j k o, cs = [a, b, c, d, e, f, g, i, j, k, o] := by
     match cs, hl with
     | [a, b, c, d, e, f, g, i, j, k, o], _ => exact ⟨a, b, c, d, e, f, g, i, j, k, o, rfl⟩
   generalize hcs : [a, b, c, d, e, f, g, i, j, k, o] = cs at hf
   have h0 : Fits Tryz.prog m 3 ((cs.drop 0).take (Tryz.prog.cellsOf 3)) := hf 0 _ rfl
   have h1 : Fits Tryz.prog m 9 ((cs.drop 1).take (Tryz.prog.cellsOf 9)) := hf 1 _ rfl
   have h2 : Fits Tryz.prog m 22 ((cs.drop 2).take (Tryz.prog.cellsOf 22)) := hf 2 _ rfl
   have h3 : Fits Tryz.prog m 23 ((cs.drop 3).take (Tryz.prog.cellsOf 23)) := hf 3 _ rfl
   have h4 : Fits Tryz.prog m 24 ((cs.drop 4).take (Tryz.prog.cellsOf 24)) := hf 4 _ rfl
   have h5 : Fits Tryz.prog m 25 ((cs.drop 5).take (Tryz.prog.cellsOf 25)) := hf 5 _ rfl
   have h6 : Fits Tryz.prog m 3 ((cs.drop 6).take (Tryz.prog.cellsOf 3)) := hf 6 _ rfl
   have h7 : Fits Tryz.prog m 3 ((cs.drop 7).take (Tryz.prog.cellsOf 3)) := hf 7 _ rfl
   have h8 : Fits Tryz.prog m 3 ((cs.drop 8).take (Tryz.prog.cellsOf 3)) := hf 8 _ rfl
   have h9 : Fits Tryz.prog m 3 ((cs.drop 9).take (Tryz.prog.cellsOf 3)) := hf 9 _ rfl
   have h10 : Fits Tryz.prog m 26 ((cs.drop 10).take (Tryz.prog.cellsOf 26)) := hf 10 _ rfl
   rw [cells3] at h0 h6 h7 h8 h9
   rw [cells9] at h1
   rw [cellsx22] at h2
   rw [cellsx23] at h3
   rw [cellsx24] at h4
   rw [cellsx25] at h5
   rw [cellsx26] at h10
   subst hcs
   obtain ⟨v0, e0, _⟩ := num_of (cs := [a]) h0
   obtain ⟨v6, e6, _⟩ := num_of (cs := [g]) h6
   obtain ⟨v7, e7, _⟩ := num_of (cs := [i]) h7
   obtain ⟨v8, e8, _⟩ := num_of (cs := [j]) h8
   obtain ⟨v9, e9, _⟩ := num_of (cs := [k]) h9
   obtain ⟨s, e1, hs⟩ := Fits.str (cs := [b]) h1 Tryz.underlying9
   obtain ⟨es, e2, w2, q2⟩ := list_of (x := c) (enc := Ex.cells) (ok := fun e => e.wide) h2 Tryz.underlying22 bytesx70 fun m y _ hy => exOf _ _ hy
   obtain ⟨cl, e3, w3, _⟩ := list_of (x := d) (enc := i64c) h3 Tryz.underlying23 bytesx3 fun m y _ hy => num_of hy
   obtain ⟨kl, e4, w4, _⟩ := list_of (x := e) (enc := keyc) h4 Tryz.underlying24 bytesx99 fun m y _ hy => key_of hy
   obtain ⟨al, e5, w5, _⟩ := list_of (x := f) (enc := aggc) h5 Tryz.underlying25 bytesx96 fun m y _ hy => agg_of hy
   obtain ⟨pl, e10, w10, q10⟩ := list_of (x := o) (enc := Pl.cells) (ok := Pl.wide) h10 Tryz.underlying26 bytesx28 fun m' y hm hy => ih m' (by omega) y hy
   simp only [i64c, List.cons.injEq, and_true] at e0 e1 e6 e7 e8 e9
   subst e0 e1 e2 e3 e4 e5 e6 e7 e8 e9 e10
   refine ⟨.mk v0 s es cl kl al v6 v7 v8 v9 pl, pcells_mk .., ?_⟩
   rw [Pl.wide]
   rw [reach_eq] at hs
   unfold wideM
   exact ⟨⟨⟨wideL_of q2, w2⟩, w3, w4, w5, by omega, by omega⟩, wideLP_of q10⟩
theorem fits28 {n : Nat} {x : PV} (h : FitsA Tryz.prog n 28 x) : ∃ (op : Int) (tb : ByteArray) (E C K A R : List (List PV)) (fn cl n0 off : Int) (p : Pl), x = .agg [.int .i64 op, .str tb, .sl E, .sl C, .sl K, .sl A, .int .i64 fn, .int .i64 cl, .int .i64 n0, .int .i64 off, .sl R] ∧ p.cells = [.int .i64 op, .str tb, .sl E, .sl C, .sl K, .sl A, .int .i64 fn, .int .i64 cl, .int .i64 n0, .int .i64 off, .sl R] ∧ p.wide := by
 obtain ⟨cs, rfl, g⟩ := h.agg Tryz.underlying28
 obtain ⟨p, hp, hw⟩ := plOf _ _ g
 obtain ⟨op, tb, es, c, k, a, fn, cl, n, off, ar⟩ := p
 have hc := pcells_mk op tb es c k a fn cl n off ar
 rw [hp] at hc
 subst hc
 exact ⟨op, tb, _, _, _, _, _, fn, cl, n, off, .mk op tb es c k a fn cl n off ar, rfl, hp, hw⟩
theorem fitsTabs {n : Nat} {x : PV} (h : FitsA Tryz.prog n 29 x) : ∃ T : List Tb, x = .sl (T.map Tb.cells) ∧ wideM 24 T.length ∧ ∀ t, t ∈ T → t.wide := by
 obtain ⟨T, e, w, q⟩ := list_of (enc := Tb.cells) (ok := Tb.wide) (h.one Tryz.underlying29 rfl) Tryz.underlying29 bytesx45 fun m y _ hy => tab_of hy
 exact ⟨T, e, by unfold wideM; omega, q⟩
theorem planChecks_law {k0 k1 : Nat} {x0 x1 : PV} (f0 : FitsA Tryz.prog k0 28 x0) (f1 : FitsA Tryz.prog k1 29 x1) : PCall Tryz.prog 3 [x0, x1] fun r => r = [.bool true] := by
 obtain ⟨op, tb, E, C, K, A, R, fn, cl, n0, off, p, rfl, hc, hw⟩ := fits28 f0
 obtain ⟨T, rfl, hb, hT⟩ := fitsTabs f1
 exact planChecks_c T _ rfl hb hT op tb E C K A R fn cl n0 off p hc hw
end Go.Proofs.YtlabphnonlicdaaGreat
