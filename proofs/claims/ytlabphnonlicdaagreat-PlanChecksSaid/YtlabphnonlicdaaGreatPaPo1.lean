/- Plans: the kinds, by the document. Own work; no condition. -/
import Derived.Test.YtlabphnonlicdaaGreatPa44
import Derived.Test.YtlabphnonlicdaaGreatPaGrw1
import Derived.Test.YtlabphnonlicdaaGreatPa39
namespace Go.Proofs.YtlabphnonlicdaaGreat
open Go Go.RowKit
set_option maxRecDepth 100000
set_option linter.unusedSimpArgs false
set_option linter.unusedVariables false
def kindsOpQ (T : List Tb) (op : Int) (tb : ByteArray) (es : List Ex) (cs : List Int) (ks : List (Int × Bool)) (ag : List (Int × Int)) (fn cl : Int) (ins : List (List Int)) : List Int × Int :=
 if op = 3 then projR ((ins[0]?).getD []) es 0 [] else kindsOp T op tb es cs ks ag fn cl ins
mutual
def kindsQ (T : List Tb) : Pl → List Int × Int
 | .mk op tb es cs ks ag fn cl n off ar => if (kindsQL T ar).2 = 0 then kindsOpQ T op tb es cs ks ag fn cl (kindsQL T ar).1 else ([], (kindsQL T ar).2)
def kindsQL (T : List Tb) : List Pl → List (List Int) × Int
 | [] => ([], 0)
 | p :: r => if (kindsQ T p).2 = 0 then ((kindsQ T p).1 :: (kindsQL T r).1, (kindsQL T r).2) else ([], (kindsQ T p).2)
end
theorem kindsOpQ_eq (T : List Tb) (op : Int) (tb : ByteArray) (es : List Ex) (cs : List Int) (ks : List (Int × Bool)) (ag : List (Int × Int)) (fn cl : Int) (ins : List (List Int)) : (kindsOpQ T op tb es cs ks ag fn cl ins).2 = (kindsOp T op tb es cs ks ag fn cl ins).2 ∧ ((kindsOp T op tb es cs ks ag fn cl ins).2 = 0 → (kindsOpQ T op tb es cs ks ag fn cl ins).1 = (kindsOp T op tb es cs ks ag fn cl ins).1) := by
 unfold kindsOpQ
 split
 · rename_i h
   subst h
   have e : kindsOp T 3 tb es cs ks ag fn cl ins = projL ((ins[0]?).getD []) es 0 [] := rfl
   rw [e]
   exact projR_eq _ _ _ _
 · exact ⟨rfl, fun _ => rfl⟩
mutual
theorem kindsQ_eq (T : List Tb) : ∀ p : Pl, (kindsQ T p).2 = (kindsP T p).2 ∧ ((kindsP T p).2 = 0 → (kindsQ T p).1 = (kindsP T p).1)
 | .mk op tb es cs ks ag fn cl n off ar => by
   obtain ⟨h1, h2⟩ := kindsQL_eq T ar
   rw [kindsQ, kindsP, h1]
   split
   · rename_i h
     rw [h2 h]
     exact kindsOpQ_eq T op tb es cs ks ag fn cl _
   · exact ⟨rfl, fun _ => rfl⟩
theorem kindsQL_eq (T : List Tb) : ∀ l : List Pl, (kindsQL T l).2 = (kindsL T l).2 ∧ ((kindsL T l).2 = 0 → (kindsQL T l).1 = (kindsL T l).1)
 | [] => ⟨rfl, fun _ => rfl⟩
 | p :: r => by
   obtain ⟨h1, h2⟩ := kindsQ_eq T p
   obtain ⟨h3, h4⟩ := kindsQL_eq T r
   rw [kindsQL, kindsL, h1]
   split
   · rename_i h
     refine ⟨h3, fun h5 => ?_⟩
     show (kindsQ T p).1 :: (kindsQL T r).1 = (kindsP T p).1 :: (kindsL T r).1
     rw [h2 h, h4 h5]
   · exact ⟨rfl, fun _ => rfl⟩
end
def CheckC (T : List Tb) (C : List (List PV)) (p : Pl) : Prop := ∀ cells, p.cells = cells → PCall Tryz.prog 17 [.agg cells, .sl C] fun r => r = [.sl ((kindsQ T p).1.map i64c), .int .i64 (kindsQ T p).2]
set_option maxHeartbeats 16000000 in
theorem check_c (T : List Tb) (CT : List (List PV)) (hCT : T.map Tb.cells = CT) (hT : schM [] T = true) (hbT : wideM 24 T.length) (hwT : ∀ t, t ∈ T → t.wide) (op : Int) (tb : ByteArray) (es : List Ex) (E C K A R : List (List PV)) (fn cl n off : Int) (cs : List Int) (ks : List (Int × Bool)) (ag : List (Int × Int)) (ar : List Pl) (hE : es.map Ex.cells = E) (hC : cs.map i64c = C) (hK : ks.map keyc = K) (hA : ag.map aggc = A) (hR0 : ar.map Pl.cells = R)
   (hw : (Pl.mk op tb es cs ks ag fn cl n off ar).wide) (hp : PlOk op es cs ks ag fn cl ar) (IH : ∀ x, x ∈ ar → CheckC T CT x) :
   PCall Tryz.prog 17 [.agg [.int .i64 op, .str tb, .sl E, .sl C, .sl K, .sl A, .int .i64 fn, .int .i64 cl, .int .i64 n, .int .i64 off, .sl R], .sl CT] fun r => r = [.sl ((kindsQ T (.mk op tb es cs ks ag fn cl n off ar)).1.map i64c), .int .i64 (kindsQ T (.mk op tb es cs ks ag fn cl n off ar)).2] := by
 rw [Pl.wide] at hw
 obtain ⟨⟨⟨hwL, hwE⟩, hwC, hwK, hwA, hwN, hwR⟩, _⟩ := hw
 have b1 : R.length = ar.length := by rw [← hR0]; simp
 obtain ⟨⟨L, er⟩, hP⟩ : ∃ p, kindsQ T (.mk op tb es cs ks ag fn cl n off ar) = p := ⟨_, rfl⟩
 rw [hP]
 rw [kindsQ] at hP
 obtain ⟨⟨ins, ek⟩, hkl⟩ : ∃ p, kindsQL T ar = p := ⟨_, rfl⟩
 rw [hkl] at hP
 have hgood : ek = 0 → ∀ k, k ∈ ins → kGood k := fun h => by
   obtain ⟨q1, q2⟩ := kindsQL_eq T ar
   rw [hkl] at q1 q2
   have h0 : (kindsL T ar).2 = 0 := q1.symm.trans h
   have h1 := kindsL_good hT ar hp.sub h0
   rw [← q2 h0] at h1; exact h1
 have hwR' := hwR
 unfold wideM at hwR'
 refine PCall.x (nt := 161) (res := [.tmp 4, .tmp 5]) mixed tt_ok [] Tryz.func17 rfl rfl rfl c17 (Nat.le_of_ble_eq_true rfl) ?_
 intro cp cc lp Q' hcp hcc hlp hQ
 repeat' (first
   | (with_reducible refine Nm.mk ?_; intro z hz)
   | (with_reducible refine IfB.mk ?_ ?_ <;> (intro h; cases h))
   | (with_reducible refine Two.l ?_; refine Asm.mk ?_ ?_; focus (decide +kernel))
   | (with_reducible refine Two.r ?_)
   | (with_reducible refine TwoT.r ?_)
   | (with_reducible refine Asm.mk ?_ ?_; focus (first | kernel_rfl | decide))
   | (with_reducible refine Asm.mk2 ?_ ?_)
   | ((fail_if_success (with_reducible first | refine hQ _ ?_ | refine Side.mk ?_ | refine isCP hcp ?_ | refine isCC hcc ?_ | refine isLP hlp ?_ | refine Ix.mk ?_ | refine SIx.mk ?_ | refine SEx.mk ?_ | refine EIx.mk ?_ | refine RIx.mk ?_ | refine LkX.mk ?_ | show False | refine hR ?_ _ ?_ ?_ ?_ ?_ ?_ | refine hR2 ?_ _ ?_ ?_ ?_ ?_ ?_)); cbv))
 simp only [nc] at hz
 simp only [nc'] at hz
 have hzl := lenZ b1 hz
 clear hz
 generalize z = zl at *
 refine mintT hlp 1 6 rfl ?_
 refine loopT (ι := Int × List (List Int) × List (List PV) × Nat) mixed tt_ok hcp hcc hlp [1, 2, 18, 19] (fun p => [(6, .tok 1 p.2.2.1), (20, .p (.int .i64 p.1))]) (fun p => [.cells [.p (.int .i64 op), .p (.str tb), .p (.sl E), .p (.sl C), .p (.sl K), .p (.sl A), .p (.int .i64 fn), .p (.int .i64 cl), .p (.int .i64 n), .p (.int .i64 off), .p (.sl R)], .spare p.2.2.2 1])
   (fun p => Rng ar.length zl p.1 ∧ ((kindsQL T (ar.drop p.1.toNat)).2 = ek ∧ (ek = 0 → ins = p.2.1 ++ (kindsQL T (ar.drop p.1.toNat)).1)) ∧ p.2.1.map rowI = p.2.2.1 ∧ p.2.2.1.length = p.2.2.2 ∧ p.2.1.length = p.1.toNat) (fun p => (zl - p.1).toNat) (0, [], [], 0) 2 (fun _ => rfl) ⟨Rng.start hzl (by omega), ⟨by show (kindsQL T ar).2 = ek; rw [hkl], fun _ => by show ins = [] ++ (kindsQL T ar).1; rw [hkl]; rfl⟩, rfl, rfl, rfl⟩ ⟨rfl, rfl, trivial⟩ rfl ?_
 rintro R1 ⟨i, acc, C1, m1⟩ ⟨rg, ⟨hf1, hf2⟩, hC1, hm1, hacc⟩ hR
 replace rg : Rng ar.length zl i := rg
 replace hf1 : (kindsQL T (ar.drop i.toNat)).2 = ek := hf1
 replace hf2 : ek = 0 → ins = acc ++ (kindsQL T (ar.drop i.toNat)).1 := hf2
 replace hC1 : acc.map rowI = C1 := hC1
 replace hm1 : C1.length = m1 := hm1
 replace hacc : acc.length = i.toNat := hacc
 have hok : okEs 1 C1 = true := by rw [← hC1]; exact List.all_eq_true.2 fun e he => by obtain ⟨c, _, rfl⟩ := List.mem_map.1 he; rfl
 have hCl : C1.length = i.toNat ∧ (decide (i < zl) = true → i.toNat + 1 ≤ ar.length) := by
   refine ⟨by rw [← hC1, List.length_map, hacc], fun h => by have := rg.ltN h; omega⟩
 have hihx : ∀ {x : Pl} {cells : List PV}, ar[i.toNat]? = some x → x.cells = cells → ∃ M e, (kindsQ T x).1.map i64c = M ∧ (kindsQ T x).2 = e ∧ PCall Tryz.prog 17 [.agg cells, .sl CT] fun r => r = [.sl M, .int .i64 e] := fun hx hc => ⟨_, _, rfl, rfl, IH _ (List.mem_of_getElem? hx) _ hc⟩
 have hstep : ∀ {x : Pl}, ar[i.toNat]? = some x → (¬ (kindsQ T x).2 = 0 → L = [] ∧ er = (kindsQ T x).2) ∧ ((kindsQ T x).2 = 0 → (kindsQL T (ar.drop (i + 1).toNat)).2 = ek ∧ (ek = 0 → ins = (acc ++ [(kindsQ T x).1]) ++ (kindsQL T (ar.drop (i + 1).toNat)).1)) := by
   intro x hx
   rw [rg.step hx, kindsQL] at hf1 hf2
   constructor
   · intro h
     rw [if_neg h] at hf1
     dsimp only at hf1
     rw [if_neg (by dsimp only; rw [← hf1]; exact h)] at hP
     simp only [Prod.mk.injEq] at hP
     exact ⟨hP.1.symm, by rw [← hP.2, hf1]⟩
   · intro h
     rw [if_pos h] at hf1 hf2
     dsimp only at hf1 hf2
     exact ⟨hf1, fun h' => by rw [hf2 h', List.append_assoc]; rfl⟩
 have hout : decide (i < zl) = false → ek = 0 ∧ ins = acc ∧ kindsOpQ T op tb es cs ks ag fn cl ins = (L, er) := by
   intro h
   rw [rg.end_ rfl h, kindsQL] at hf1 hf2
   have h0 : ek = 0 := hf1.symm
   have h1 := hf2 h0
   rw [List.append_nil] at h1
   rw [if_pos h0] at hP
   exact ⟨h0, h1, hP⟩
 repeat' (first
   | (with_reducible refine Nm.mk ?_; intro z hz)
   | (with_reducible refine IfB.mk ?_ ?_ <;> (intro h; cases h))
   | (with_reducible refine Two.l ?_; refine Asm.mk ?_ ?_; focus (decide +kernel))
   | (with_reducible refine Two.r ?_)
   | (with_reducible refine TwoT.r ?_)
   | (with_reducible refine Asm.mk ?_ ?_; focus (first | (have := hCl.2 (by assumption); have := hCl.1; refine ⟨hm1.symm, rfl, hok, rfl, ?_, ?_⟩ <;> (clear hR hQ; simp only [List.length_cons, List.length_nil, maxLen]; omega)) | (show (_ : Bool) = true; kernel_rfl)))
   | (with_reducible refine isCP hcp ?_; first | (refine xP hcp (hcall) ?_; skip))
   | (with_reducible refine isCC hcc ?_; first | (refine xA hcc (hcall) rfl ?_; skip))
   | (with_reducible refine Ix.plf hR0 rg.lo (rg.lt (by assumption)) ?_; intro x op' tb' E' C' K' A' fn' cl' n' off' R' es' cs' ks' ag' ar' hx hpf; obtain ⟨M, e, hM, he, hcall⟩ := hihx hx hpf.cells)
   | (with_reducible refine Asm.mk2 ?_ ?_)
   | ((fail_if_success (with_reducible first | refine hQ _ ?_ | refine Side.mk ?_ | refine isCP hcp ?_ | refine isCC hcc ?_ | refine isLP hlp ?_ | refine Ix.mk ?_ | refine SIx.mk ?_ | refine SEx.mk ?_ | refine EIx.mk ?_ | refine RIx.mk ?_ | refine LkX.mk ?_ | show False | refine hR ?_ _ ?_ ?_ ?_ ?_ ?_ | refine hR2 ?_ _ ?_ ?_ ?_ ?_ ?_)); cbv))
 all_goals first
   | (have hne : ¬ e = 0 := by
        have h : (!decide (e = 0)) = true := by assumption
        simpa using h
      obtain ⟨h1, h2⟩ := (hstep hx).1 (by rw [he]; exact hne)
      refine hQ _ ?_
      rw [h1, h2, he]; rfl)
   | (have hlt : decide (i < zl) = true := by assumption
      have he0 : e = 0 := by
        have h : (!decide (e = 0)) = false := by assumption
        simpa using h
      obtain ⟨h1, h2⟩ := (hstep hx).2 (by rw [he]; exact he0)
      rename_i C2 hC2 m2 hm2
      rw [rg.wrap hlt] at hz
      exact hR (i + 1, acc ++ [(kindsQ T x).1], C2, m2) _ ⟨rg.next hlt, ⟨h1, h2⟩, by show (acc ++ [(kindsQ T x).1]).map rowI = C2; rw [← hC2, ← hC1, List.map_append, ← hM]; rfl, by show C2.length = m2; rw [← hC2, ← hm2, List.length_append], by show (acc ++ [(kindsQ T x).1]).length = (i + 1).toNat; rw [List.length_append, hacc, rg.toNat]; rfl⟩ (rg.less hlt) ⟨rfl, hz ▸ rfl, trivial⟩ ⟨rfl, rfl, rfl, rfl, trivial⟩ rfl)
   | skip
 all_goals
   (obtain ⟨hek, hins, hko⟩ := hout (by assumption)
    have hil : ins.length = ar.length := by rw [hins, hacc, (rg.stop (by assumption)).2.2]; rfl
    have hC1' : ins.map rowI = C1 := by rw [hins]; exact hC1
    have hgd := hgood hek
    clear hR hstep hihx hout hf1 hf2 hP hgood hCl IH hins hC1 hacc rg
    obtain ⟨K0, hK0⟩ : ∃ k, (ins[0]?).getD [] = k := ⟨_, rfl⟩
    obtain ⟨M0, hM0⟩ : ∃ m, K0.map i64c = m := ⟨_, rfl⟩
    have hne1 : decide (op = 1) = false → decide (op = 12) = false → 1 ≤ ar.length := by
      intro h1 h2
      have h1 := of_decide_eq_false h1
      have h2 := of_decide_eq_false h2
      have hr := hp.rng
      by_cases h8 : op = 8
      · exact hp.any h8
      · by_cases h4 : op = 4 ∨ op = 5 ∨ op = 11
        · have := hp.two h4; omega
        · have := hp.one (by omega); omega
    have hK0g : kGood K0 := by
      rw [← hK0]
      cases h : ins[0]? with
      | none => exact ⟨fun x hx => (by cases hx), Nat.zero_le _⟩
      | some k => exact hgd k (List.mem_of_getElem? h)
    have hx0 : decide (op = 1) = false → decide (op = 12) = false → C1[Int.toNat 0]? = some [.sl M0] := by
      intro h1 h2
      have h3 := hne1 h1 h2
      have h4 : ins[0]? = some K0 := by
        rw [← hK0, List.getElem?_eq_getElem (show 0 < ins.length by omega)]; rfl
      rw [← hC1', List.getElem?_map, show Int.toNat 0 = 0 from rfl, h4, ← hM0]; rfl
    obtain ⟨K1, hK1⟩ : ∃ k, (ins[1]?).getD [] = k := ⟨_, rfl⟩
    obtain ⟨M1, hM1⟩ : ∃ m, K1.map i64c = m := ⟨_, rfl⟩
    have hx1 : (decide (op = 4) = true ∨ decide (op = 5) = true) → C1[Int.toNat 1]? = some [.sl M1] := by
      intro h
      simp only [decide_eq_true_eq] at h
      have h3 := hp.two (by omega)
      have h4 : ins[1]? = some K1 := by
        rw [← hK1, List.getElem?_eq_getElem (show 1 < ins.length by omega)]; rfl
      rw [← hC1', List.getElem?_map, show Int.toNat 1 = 1 from rfl, h4, ← hM1]; rfl
    obtain ⟨e0, he0⟩ : ∃ e, (es[0]?).getD (.mk 0 0 Val.zero []) = e := ⟨_, rfl⟩
    have hwe : e0.wide := by
      rw [← he0]
      cases h : es[0]? with
      | none => exact ⟨by unfold wideN; decide, trivial⟩
      | some k => exact wide_mem hwL (List.mem_of_getElem? h)
    have hxE0 : (decide (op = 2) = true ∨ decide (op = 4) = true ∨ decide (op = 5) = true) → E[Int.toNat 0]? = some e0.cells := by
      intro h
      simp only [decide_eq_true_eq] at h
      have h1 := hp.ex1 h
      have h4 : es[0]? = some e0 := by
        rw [← he0, List.getElem?_eq_getElem (show 0 < es.length by omega)]; rfl
      rw [← hE, List.getElem?_map, show Int.toNat 0 = 0 from rfl, h4]; rfl
    obtain ⟨op0, m0, ⟨vk0, vn0, vs0⟩, ar0⟩ := e0
    obtain ⟨E0, hE0⟩ : ∃ l, ar0.map Ex.cells = l := ⟨_, rfl⟩
    rw [cells_mk, hE0] at hxE0
    have hxE : (decide (op = 2) = true ∨ decide (op = 4) = true ∨ decide (op = 5) = true) → E[Int.toNat 0]? = some [.int .i64 op0, .int .i64 m0, .int .i64 vk0, .int .i64 vn0, .str vs0, .sl E0] := hxE0
    obtain ⟨F, hF⟩ : ∃ f, ins.flatten = f := ⟨_, rfl⟩
    obtain ⟨MF, hMF⟩ : ∃ m, F.map i64c = m := ⟨_, rfl⟩
    have hF2 : (decide (op = 4) = true ∨ decide (op = 5) = true) → K0 ++ K1 = F ∧ M0 ++ M1 = MF ∧ M0.length ≤ 32 ∧ M1.length ≤ 32 := by
      intro h
      simp only [decide_eq_true_eq] at h
      have h2 := hp.two (by omega)
      rw [← hMF, ← hF, ← hM0, ← hM1, ← hK0, ← hK1]
      match ins, (show ins.length = 2 by omega), hgd with
      | [a, b], _, hgd =>
        have h3 := (hgd a (by simp)).2
        have h4 := (hgd b (by simp)).2
        simp
        exact ⟨h3, h4⟩
    have hFl : (decide (op = 4) = true ∨ decide (op = 5) = true) → F.length ≤ 64 := by
      intro h
      simp only [decide_eq_true_eq] at h
      have h2 := hp.two (by omega)
      rw [← hF]
      match ins, (show ins.length = 2 by omega), hgd with
      | [a, b], _, hgd =>
        have h3 := (hgd a (by simp)).2
        have h4 := (hgd b (by simp)).2
        simp
        omega
    have hcA := rcondition_c K0 M0 hM0 op0 m0 vk0 vn0 vs0 ar0 E0 hE0 hwe
    have hcB := rcondition_c F MF hMF op0 m0 vk0 vn0 vs0 ar0 E0 hE0 hwe
    obtain ⟨⟨Lp, ep⟩, hpj⟩ : ∃ p, projR K0 es 0 [] = p := ⟨_, rfl⟩
    obtain ⟨Dp, hDp⟩ : ∃ d, Lp.map i64c = d := ⟨_, rfl⟩
    have hprj := projected_c K0 M0 hM0 es E hE hwL hwE Dp ep (by rw [hpj]; exact hDp) (by rw [hpj])
    obtain ⟨⟨Lg, eg⟩, hgk⟩ : ∃ p, groupK K0 cs ag = p := ⟨_, rfl⟩
    obtain ⟨Dg, hDg⟩ : ∃ d, Lg.map i64c = d := ⟨_, rfl⟩
    have hKb : K0.length ≤ 32 := hK0g.2
    unfold wideM at hwC hwK hwA
    have hgrp : decide (op = 6) = true → PCall Tryz.prog 42 [.agg [.int .i64 op, .str tb, .sl E, .sl C, .sl K, .sl A, .int .i64 fn, .int .i64 cl, .int .i64 n, .int .i64 off, .sl R], .sl M0] fun r => r = [.sl Dg, .int .i64 eg] := by
      intro h
      have h6 := hp.grp (of_decide_eq_true h)
      have h7 := grouped_c op tb E C K A R fn cl n off K0 M0 hM0 (by omega) hK0g.1 cs ag hC hA hwC hwA h6.1 h6.2 Lg eg hgk
      rw [hDg] at h7; exact h7
    obtain ⟨⟨Lw, ew⟩, hwk⟩ : ∃ p, winK K0 cs ks fn cl = p := ⟨_, rfl⟩
    obtain ⟨Dw, hDw⟩ : ∃ d, Lw.map i64c = d := ⟨_, rfl⟩
    have hwin : decide (op = 10) = true → PCall Tryz.prog 43 [.agg [.int .i64 op, .str tb, .sl E, .sl C, .sl K, .sl A, .int .i64 fn, .int .i64 cl, .int .i64 n, .int .i64 off, .sl R], .sl M0] fun r => r = [.sl Dw, .int .i64 ew] := by
      intro h
      have h7 := windowed_c op tb E C K A R fn cl n off K0 M0 hM0 (by omega) (hp.win (of_decide_eq_true h)).1 hK0g.1 cs ks hC hK hwC hwK (hp.win (of_decide_eq_true h)).2 Lw ew hwk
      rw [hDw] at h7; exact h7
    have hkc := keyCols_c ks K hK hwK
    obtain ⟨KL, hKL⟩ : ∃ l, (ks.map (·.1)).map i64c = l := ⟨_, rfl⟩
    rw [hKL] at hkc
    have hpst := fun k => beyond_c (ks.map (·.1)) KL hKL (by rw [List.length_map]; omega) k
    have hk3 : op = 3 → projR K0 es 0 [] = (L, er) := fun h => by rw [kindsOpQ, if_pos h, hK0] at hko; exact hko
    have hkn : ¬ op = 3 → kindsOp T op tb es cs ks ag fn cl ins = (L, er) := fun h => by rw [kindsOpQ, if_neg h] at hko; exact hko
    have k1 : op = 1 → (match T.find? fun t => decide (t.name = tb) with | none => (([] : List Int), (8 : Int)) | some t => (t.cols.map (·.2), 0)) = (L, er) := fun h => by have hkk := hkn (by omega); rw [kindsOp, hK0, he0, hF] at hkk; rw [if_pos h] at hkk; exact hkk
    have k12e : op = 12 → (cs, (0 : Int)) = (L, er) := fun h => by have hkk := hkn (by omega); rw [kindsOp, hK0, he0, hF] at hkk; rw [if_neg (by omega), if_pos h] at hkk; exact hkk
    have k2 : op = 2 → (K0, condK K0 (.mk op0 m0 ⟨vk0, vn0, vs0⟩ ar0)) = (L, er) := fun h => by have hkk := hkn (by omega); rw [kindsOp, hK0, he0, hF] at hkk; rw [if_neg (by omega), if_neg (by omega), if_pos h] at hkk; exact hkk
    have k3 : op = 3 → (Lp, ep) = (L, er) := fun h => by have h1 := hk3 h; rw [hpj] at h1; exact h1
    have k45 : op = 4 ∨ op = 5 → (F, if 32 < F.length then (1 : Int) else condK F (.mk op0 m0 ⟨vk0, vn0, vs0⟩ ar0)) = (L, er) := fun h => by have hkk := hkn (by omega); rw [kindsOp, hK0, he0, hF] at hkk; rw [if_neg (by omega), if_neg (by omega), if_neg (by omega), if_neg (by omega), if_pos h] at hkk; exact hkk
    have k6 : op = 6 → (Lg, eg) = (L, er) := fun h => by have hkk := hkn (by omega); rw [kindsOp, hK0, he0, hF] at hkk; rw [if_neg (by omega), if_neg (by omega), if_neg (by omega), if_neg (by omega), if_neg (by omega), if_pos h, hgk] at hkk; exact hkk
    have k8 : op = 8 ∨ op = 11 → (if (ins.all fun k => decide (k = K0)) = true then (K0, (0 : Int)) else ([], 4)) = (L, er) := fun h => by have hkk := hkn (by omega); rw [kindsOp, hK0, he0, hF] at hkk; rw [if_neg (by omega), if_neg (by omega), if_neg (by omega), if_neg (by omega), if_neg (by omega), if_neg (by omega), if_pos h] at hkk; exact hkk
    have k9 : op = 9 → (if pastM (ks.map (·.1)) K0.length = true then (([] : List Int), (1 : Int)) else (K0, 0)) = (L, er) := fun h => by have hkk := hkn (by omega); rw [kindsOp, hK0, he0, hF] at hkk; rw [if_neg (by omega), if_neg (by omega), if_neg (by omega), if_neg (by omega), if_neg (by omega), if_neg (by omega), if_neg (by omega), if_pos h] at hkk; exact hkk
    have k10 : op = 10 → (Lw, ew) = (L, er) := fun h => by have hkk := hkn (by omega); rw [kindsOp, hK0, he0, hF] at hkk; rw [if_neg (by omega), if_neg (by omega), if_neg (by omega), if_neg (by omega), if_neg (by omega), if_neg (by omega), if_neg (by omega), if_neg (by omega), if_pos h, hwk] at hkk; exact hkk
    have k7 : ¬ op = 1 → ¬ op = 12 → ¬ op = 2 → ¬ op = 3 → ¬ (op = 4 ∨ op = 5) → ¬ op = 6 → ¬ (op = 8 ∨ op = 11) → ¬ op = 9 → ¬ op = 10 → (K0, (0 : Int)) = (L, er) := fun h1 h2 h3 h4 h5 h6 h7 h8 h9 => by have hkk := hkn (by omega); rw [kindsOp, hK0, he0, hF] at hkk; rw [if_neg h1, if_neg h2, if_neg h3, if_neg h4, if_neg h5, if_neg h6, if_neg h7, if_neg h8, if_neg h9] at hkk; exact hkk
    have hsd0 : okEs 1 ([] : List (List PV)) = true ∧ okEs 1 M0 = true ∧ ([] : List (List PV)).length + M0.length ≤ maxLen ∧ (([] : List (List PV)).length + M0.length) * 8 ≤ 140737488355328 := by
      have hml : M0.length = K0.length := by rw [← hM0]; simp
      refine ⟨rfl, by rw [← hM0]; exact ok_map _, ?_, ?_⟩ <;> simp only [List.length_nil, maxLen] <;> omega
    have hsd1 : (decide (op = 4) = true ∨ decide (op = 5) = true) → ∀ {Z : List (List PV)} {m : Nat}, [] ++ M0 = Z → ([] : List (List PV)).length + M0.length = m → (m = Z.length ∧ 1 = 1 ∧ okEs 1 Z = true ∧ okEs 1 M1 = true ∧ Z.length + M1.length ≤ maxLen ∧ (Z.length + M1.length) * 8 ≤ 140737488355328) := by
      rintro h Z m rfl rfl
      obtain ⟨_, _, q3, q4⟩ := hF2 h
      refine ⟨by simp, rfl, by rw [List.nil_append, ← hM0]; exact ok_map _, by rw [← hM1]; exact ok_map _, ?_, ?_⟩ <;> simp only [List.nil_append, maxLen] <;> omega
    have hcB2 : (decide (op = 4) = true ∨ decide (op = 5) = true) → ∀ {Z Z2 : List (List PV)}, Z ++ M1 = Z2 → [] ++ M0 = Z → PCall Tryz.prog 40 [.agg [.int .i64 op0, .int .i64 m0, .int .i64 vk0, .int .i64 vn0, .str vs0, .sl E0], .sl Z2] fun r => r = [.int .i64 (condK F (.mk op0 m0 ⟨vk0, vn0, vs0⟩ ar0))] := by
      rintro h Z Z2 rfl rfl
      rw [List.nil_append, (hF2 h).2.1]
      exact hcB
    have b2 : M0.length = K0.length := by rw [← hM0]; simp
    have b3 : MF.length = F.length := by rw [← hMF]; simp
    have b4 : C1.length = ins.length := by rw [← hC1']; simp
    clear hk3 hkn hko)
 all_goals
   (skip
    repeat' (first
      | (with_reducible refine Nm.mk ?_; intro z hz)
      | (with_reducible refine IfB.mk ?_ ?_ <;> (intro h; cases h))
      | (with_reducible refine Two.l ?_; refine Asm.mk ?_ ?_; focus (decide +kernel))
      | (with_reducible refine Two.r ?_)
      | (with_reducible refine TwoT.r ?_)
      | (with_reducible refine Asm.mk ?_ ?_; focus (first | exact hsd0 | exact hsd1 (by first | exact .inl (by assumption) | exact .inr (by assumption)) (by assumption) (by assumption) | (show (_ : Bool) = true; kernel_rfl)))
      | (with_reducible refine isCP hcp ?_; first | (refine xP hcp (hkc) ?_; skip) | (refine bP hcp (hpst _) ?_; intro z hz) | (refine iP hcp (hcA) ?_; intro z hz) | (refine iP hcp (hcB2 (by first | exact .inl (by assumption) | exact .inr (by assumption)) (by assumption) (by assumption)) ?_; intro z hz) | (refine xP hcp (hprj) ?_; skip) | (refine xP hcp (hgrp (by assumption)) ?_; skip) | (refine xP hcp (hwin (by assumption)) ?_; skip))
      | (with_reducible refine isCC hcc ?_; first | (refine xA hcc (hkc) rfl ?_; skip) | (refine bA hcc (hpst _) rfl ?_; intro z hz) | (refine iA hcc (hcA) rfl ?_; intro z hz) | (refine iA hcc (hcB2 (by first | exact .inl (by assumption) | exact .inr (by assumption)) (by assumption) (by assumption)) rfl ?_; intro z hz) | (refine xA hcc (hprj) rfl ?_; skip) | (refine xA hcc (hgrp (by assumption)) rfl ?_; skip) | (refine xA hcc (hwin (by assumption)) rfl ?_; skip))
      | (with_reducible refine Ix.giv (Int.le_refl 0) (hx0 (by assumption) (by assumption)) rfl (by decide) ?_)
      | (with_reducible refine Ix.giv (by decide) (hx1 (by first | exact .inl (by assumption) | exact .inr (by assumption))) rfl (by decide) ?_)
      | (with_reducible refine Ix.giv (Int.le_refl 0) (hxE (by first | exact .inl (by assumption) | exact .inr (.inl (by assumption)) | exact .inr (.inr (by assumption)))) rfl (by decide) ?_)
      | (with_reducible refine Asm.mk2 ?_ ?_)
      | ((fail_if_success (with_reducible first | refine hQ _ ?_ | refine Side.mk ?_ | refine isCP hcp ?_ | refine isCC hcc ?_ | refine isLP hlp ?_ | refine Ix.mk ?_ | refine SIx.mk ?_ | refine SEx.mk ?_ | refine EIx.mk ?_ | refine RIx.mk ?_ | refine LkX.mk ?_ | show False | refine hR ?_ _ ?_ ?_ ?_ ?_ ?_ | refine hR2 ?_ _ ?_ ?_ ?_ ?_ ?_)); cbv))
    all_goals first
      | (have h1 : op = 12 := of_decide_eq_true (by assumption)
         have e := k12e h1
         simp only [Prod.mk.injEq] at e
         refine hQ _ ?_
         rw [← e.1, ← e.2, hC])
      | (have h1 : op = 2 := of_decide_eq_true (by assumption)
         have e := k2 h1
         simp only [Prod.mk.injEq] at e
         refine hQ _ ?_
         rw [← e.1, ← e.2, hM0, hz])
      | (have h1 : op = 3 := of_decide_eq_true (by assumption)
         have e := k3 h1
         simp only [Prod.mk.injEq] at e
         refine hQ _ ?_
         rw [← e.1, ← e.2, hDp])
      | (have h1 : op = 6 := of_decide_eq_true (by assumption)
         have e := k6 h1
         simp only [Prod.mk.injEq] at e
         refine hQ _ ?_
         rw [← e.1, ← e.2, hDg])
      | (have h1 : op = 10 := of_decide_eq_true (by assumption)
         have e := k10 h1
         simp only [Prod.mk.injEq] at e
         refine hQ _ ?_
         rw [← e.1, ← e.2, hDw])
      | (have h1 : op = 9 := of_decide_eq_true (by assumption)
         have e := k9 h1
         have hz1 : ∀ {z : Int} {b : Bool}, pastM (ks.map (·.1)) z = b → (M0.length : Int) = z → pastM (ks.map (·.1)) K0.length = b := by rintro z b h rfl; rw [← h, b2]
         have hb := hz1 (by assumption) (by assumption)
         first
           | (rw [if_pos hb] at e
              simp only [Prod.mk.injEq] at e
              refine hQ _ ?_
              rw [← e.1, ← e.2]; rfl)
           | (rw [if_neg (by rw [hb]; decide)] at e
              simp only [Prod.mk.injEq] at e
              refine hQ _ ?_
              rw [← e.1, ← e.2, hM0]))
      | (have h1 : op = 4 ∨ op = 5 := by first | exact .inl (of_decide_eq_true (by assumption)) | exact .inr (of_decide_eq_true (by assumption))
         have h1d : decide (op = 4) = true ∨ decide (op = 5) = true := by simpa using h1
         have e := k45 h1
         have hzf : ∀ {Z Z2 : List (List PV)}, Z ++ M1 = Z2 → [] ++ M0 = Z → Z2 = MF := by
           rintro Z Z2 rfl rfl; rw [List.nil_append]; exact (hF2 h1d).2.1
         have hz1 : (∀ {z : Int} {Z2 : List (List PV)}, decide (32 < z) = true → (Z2.length : Int) = z → Z2 = MF → 32 < F.length) ∧ (∀ {z : Int} {Z2 : List (List PV)}, decide (32 < z) = false → (Z2.length : Int) = z → Z2 = MF → ¬ 32 < F.length) := by
           constructor <;> (rintro z Z2 h rfl rfl; simp only [decide_eq_true_eq, decide_eq_false_iff_not] at h; omega)
         first
           | (rename_i Z1 q1 n1 q2 Z2 q3 n2 q4 c q5 q6 q7
              have hzz : Z2 = MF := hzf q3 q1
              first
                | (have hb : decide (32 < z) = true := hz
                   rw [if_pos (hz1.1 hb q7 hzz)] at e
                   simp only [Prod.mk.injEq] at e
                   refine hQ _ ?_
                   rw [← e.1, ← e.2, hMF, hzz])
                | (have hb : decide (32 < z) = false := hz
                   rw [if_neg (hz1.2 hb q7 hzz), q5] at e
                   simp only [Prod.mk.injEq] at e
                   refine hQ _ ?_
                   rw [← e.1, ← e.2, hMF, hzz]))
           | (rename_i Z1 q1 n1 q2 Z2 q3 n2 q4 q5
              have hzz : Z2 = MF := hzf q3 q1
              have h1 : z = 1 := by
                have h : (!decide (z = (1 : Int))) = false := hz
                simpa using h
              rw [q5, h1, ite_self] at e
              simp only [Prod.mk.injEq] at e
              refine hQ _ ?_
              rw [← e.1, ← e.2, hMF, hzz, h1]))
      | (have e := k7 (of_decide_eq_false (by assumption)) (of_decide_eq_false (by assumption)) (of_decide_eq_false (by assumption)) (of_decide_eq_false (by assumption)) (by rintro (h | h) <;> exact absurd h (of_decide_eq_false (by assumption))) (of_decide_eq_false (by assumption)) (by rintro (h | h) <;> exact absurd h (of_decide_eq_false (by assumption))) (of_decide_eq_false (by assumption)) (of_decide_eq_false (by assumption))
         simp only [Prod.mk.injEq] at e
         refine hQ _ ?_
         rw [← e.1, ← e.2, hM0])
      | (refine Side.mk ⟨by decide, ?_, Int.le_refl _, ?_, by decide⟩
         · have hh := hne1 (by assumption) (by assumption)
           show (1 : Int) ≤ (C1.length : Int)
           omega
         · rw [← hC1', List.all_map]
           exact List.all_eq_true.2 fun _ _ => rfl)
      | skip
    all_goals first
      | (have h1 : op = 1 := of_decide_eq_true (by assumption)
         have e := k1 h1
         have hlt : CT.length = T.length := by rw [← hCT]; simp
         unfold wideM at hbT
         simp only [nc] at hz
         simp only [nc'] at hz
         have hyl := lenZ hlt hz
         clear hz
         generalize z = yl at *
         obtain ⟨fd, hfd⟩ : ∃ f, T.find? (fun t => decide (t.name = tb)) = f := ⟨_, rfl⟩
         rw [hfd] at e
         refine loopK (ι := Int) mixed tt_ok hcp hcc hlp [2, 42, 43] (fun j => [(44, .p (.int .i64 j))]) (fun j => Rng T.length yl j ∧ (T.drop j.toNat).find? (fun t => decide (t.name = tb)) = fd) (fun j => (yl - j).toNat) 0 (fun _ => rfl) ⟨Rng.start hyl (by omega), hfd⟩ ⟨rfl, trivial⟩ ?_
         rintro R3 j ⟨rj, hg⟩ hR
         have hwx : ∀ {nm : ByteArray} {cols : List (ByteArray × Int)} {rows : List (List Val)} {CC RW : List (List PV)}, T[j.toNat]? = some ⟨nm, cols, rows⟩ → cols.map colc = CC → ∃ MT, (cols.map (·.2)).map i64c = MT ∧ PCall Tryz.prog 14 [.agg [.str nm, .sl CC, .sl RW]] fun r => r = [.sl MT] := by
           intro nm cols rows CC RW hx hCC
           have w2 := (hwT _ (List.mem_of_getElem? hx)).2.1
           exact ⟨_, rfl, kindsOf_c cols CC nm RW hCC w2⟩
         have hst : ∀ {t : Tb}, T[j.toNat]? = some t → (sbeq t.name tb = true → fd = some t) ∧ (sbeq t.name tb = false → (T.drop (j + 1).toNat).find? (fun t => decide (t.name = tb)) = fd) := by
           intro t ht
           rw [rj.step ht, List.find?_cons, ← sbeq_eq] at hg
           exact ⟨fun h => by rw [h] at hg; exact hg.symm, fun h => by rw [h] at hg; exact hg⟩
         have hout2 : decide (j < yl) = false → fd = none := by
           intro h; rw [← hg, rj.end_ rfl h]; rfl
         repeat' (first
           | (with_reducible refine Nm.mk ?_; intro z hz)
           | (with_reducible refine IfB.mk ?_ ?_ <;> (intro h; cases h))
           | (with_reducible refine Two.l ?_; refine Asm.mk ?_ ?_; focus (decide +kernel))
           | (with_reducible refine Two.r ?_)
           | (with_reducible refine TwoT.r ?_)
           | (with_reducible refine Asm.mk ?_ ?_; focus (show (_ : Bool) = true; kernel_rfl))
           | (with_reducible refine isCP hcp ?_; first | (refine xP hcp (hcallT) ?_; skip))
           | (with_reducible refine isCC hcc ?_; first | (refine xA hcc (hcallT) rfl ?_; skip))
           | (with_reducible refine Ix.tb hCT rj.lo (rj.lt (by assumption)) ?_; intro nm cols rows CC RW hx hCC hRW; obtain ⟨MT, hMT, hcallT⟩ := hwx hx hCC)
           | (with_reducible refine Asm.mk2 ?_ ?_)
           | ((fail_if_success (with_reducible first | refine hQ _ ?_ | refine Side.mk ?_ | refine isCP hcp ?_ | refine isCC hcc ?_ | refine isLP hlp ?_ | refine Ix.mk ?_ | refine SIx.mk ?_ | refine SEx.mk ?_ | refine EIx.mk ?_ | refine RIx.mk ?_ | refine LkX.mk ?_ | show False | refine hR ?_ _ ?_ ?_ ?_ ?_ ?_ | refine hR2 ?_ _ ?_ ?_ ?_ ?_ ?_)); cbv))
         all_goals first
           | (rw [hout2 (by assumption)] at e
              simp only [Prod.mk.injEq] at e
              refine hQ _ ?_
              rw [← e.1, ← e.2]; rfl)
           | (rw [(hst hx).1 (by assumption)] at e
              have e1 := congrArg Prod.fst e
              have e2 := congrArg Prod.snd e
              refine hQ _ ?_
              rw [← e1, ← e2, ← hMT])
           | (have hlt2 : decide (j < yl) = true := by assumption
              rw [rj.wrap hlt2] at hz
              exact hR (j + 1) _ ⟨rj.next hlt2, (hst hx).2 (by assumption)⟩ (rj.less hlt2) ⟨hz ▸ rfl, trivial⟩ ⟨rfl, rfl, rfl, trivial⟩ rfl))
      | (have h1 : op = 8 ∨ op = 11 := by first | exact .inl (of_decide_eq_true (by assumption)) | exact .inr (of_decide_eq_true (by assumption))
         have hd1 : decide (op = 1) = false := by assumption
         have hd12 : decide (op = 12) = false := by assumption
         have hxx := hx0 hd1 hd12
         have hn1 := hne1 hd1 hd12
         have e := k8 h1
         rename_i D hD
         have hD2 : (C1.drop 1).take (C1.length - 1) = D := hD
         rw [List.take_of_length_le (by rw [List.length_drop]; omega)] at hD2
         have hD3 : (ins.drop 1).map rowI = D := by rw [← hD2, ← hC1', List.map_drop]
         have hDl : D.length = (ins.drop 1).length := by rw [← hD3, List.length_map]
         have hi0 : ins = K0 :: ins.drop 1 := by
           rw [← hK0]
           match ins, (show 1 ≤ ins.length by omega) with
           | a :: r, _ => rfl
         obtain ⟨ua, hua⟩ : ∃ b, ((ins.drop 1).all fun k => decide (k = K0)) = b := ⟨_, rfl⟩
         have hia : (ins.all fun k => decide (k = K0)) = ua := by
           rw [hi0, List.all_cons, decide_eq_true rfl, Bool.true_and]; exact hua
         rw [hia] at e
         simp only [nc] at hz
         simp only [nc'] at hz
         have hyl := lenZ hDl hz
         clear hz hD hD2
         generalize z = yl at *
         unfold wideM at hwR
         have hgd3 : ∀ k, k ∈ ins.drop 1 → kGood k := fun k hk => hgd k (List.mem_of_mem_drop hk)
         have hdl : (ins.drop 1).length ≤ ins.length := by rw [List.length_drop]; omega
         generalize ins.drop 1 = insd at *
         refine loopK (ι := Int) mixed tt_ok hcp hcc hlp [6, 64, 65] (fun j => [(66, .p (.int .i64 j))]) (fun j => Rng insd.length yl j ∧ ((insd.drop j.toNat).all fun k => decide (k = K0)) = ua) (fun j => (yl - j).toNat) 0 (fun _ => rfl) ⟨Rng.start hyl (by omega), hua⟩ ⟨rfl, trivial⟩ ?_
         rintro R3 j ⟨rj, hg⟩ hR
         have hbad : ∀ x, insd[j.toNat]? = some x → decide (x = K0) = false → ua = false := by
           intro x hx h; rw [← hg, rj.step hx, List.all_cons, h]; rfl
         have hgd2 : ∀ x, insd[j.toNat]? = some x → decide (x = K0) = true → ((insd.drop (j + 1).toNat).all fun k => decide (k = K0)) = ua := by
           intro x hx h; rw [← hg, rj.step hx, List.all_cons, h]; rfl
         have hout2 : decide (j < yl) = false → ua = true := by
           intro h; rw [← hg, rj.end_ rfl h]; rfl
         have heq : ∀ {x : List Int} {M : List (List PV)}, insd[j.toNat]? = some x → x.map i64c = M → PCall Tryz.prog 39 [.sl M, .sl M0] fun r => r = [.bool (decide (x = K0))] := fun {x} {M} hx hM => sameKinds_c x K0 M M0 hM hM0 (by have := (hgd3 _ (List.mem_of_getElem? hx)).2; omega)
         repeat' (first
           | (with_reducible refine Nm.mk ?_; intro z hz)
           | (with_reducible refine IfB.mk ?_ ?_ <;> (intro h; cases h))
           | (with_reducible refine Two.l ?_; refine Asm.mk ?_ ?_; focus (decide +kernel))
           | (with_reducible refine Two.r ?_)
           | (with_reducible refine TwoT.r ?_)
           | (with_reducible refine Asm.mk ?_ ?_; focus (show (_ : Bool) = true; kernel_rfl))
           | (with_reducible refine isCP hcp ?_; first | (refine bP hcp (heq hy hMy) ?_; intro z hz))
           | (with_reducible refine isCC hcc ?_; first | (refine bA hcc (heq hy hMy) rfl ?_; intro z hz))
           | (with_reducible refine Ix.ri hD3 rj.lo (rj.lt (by assumption)) ?_; intro y My hy hMy)
           | (with_reducible refine Ix.giv (Int.le_refl 0) hxx rfl (by decide) ?_)
           | (with_reducible refine Asm.mk2 ?_ ?_)
           | ((fail_if_success (with_reducible first | refine hQ _ ?_ | refine Side.mk ?_ | refine isCP hcp ?_ | refine isCC hcc ?_ | refine isLP hlp ?_ | refine Ix.mk ?_ | refine SIx.mk ?_ | refine SEx.mk ?_ | refine EIx.mk ?_ | refine RIx.mk ?_ | refine LkX.mk ?_ | show False | refine hR ?_ _ ?_ ?_ ?_ ?_ ?_ | refine hR2 ?_ _ ?_ ?_ ?_ ?_ ?_)); cbv))
         all_goals first
           | (have hu := hout2 (by assumption)
              rw [if_pos hu] at e
              simp only [Prod.mk.injEq] at e
              refine hQ _ ?_
              rw [← e.1, ← e.2, hM0]
              done)
           | (rename_i q5
              have hu := hbad _ hy (by have h2 : (!z) = true := hz; have h3 : z = false := by simpa using h2
                                       exact q5.trans h3)
              rw [if_neg (by rw [hu]; decide)] at e
              simp only [Prod.mk.injEq] at e
              refine hQ _ ?_
              rw [← e.1, ← e.2]; rfl)
           | (have hlt : decide (j < yl) = true := by assumption
              rw [rj.wrap hlt] at hz
              exact hR (j + 1) _ ⟨rj.next hlt, hgd2 _ hy (by rename_i zb hzb hzn; rw [hzb]; simpa using hzn)⟩ (rj.less hlt) ⟨hz ▸ rfl, trivial⟩ ⟨rfl, rfl, rfl, trivial⟩ rfl)))
end Go.Proofs.YtlabphnonlicdaaGreat
