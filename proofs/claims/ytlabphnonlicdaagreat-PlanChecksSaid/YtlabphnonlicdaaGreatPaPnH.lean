/- Plans: what is built, by the document: the operators. Own work; no condition. -/
import Derived.Test.YtlabphnonlicdaaGreatPa46
namespace Go.Proofs.YtlabphnonlicdaaGreat
open Go Go.RowKit
set_option maxRecDepth 100000
set_option linter.unusedSimpArgs false
set_option linter.unusedVariables false
set_option maxHeartbeats 8000000 in
theorem rbuiltP_a (op : Int) (hop : op = 1 ∨ op = 2 ∨ op = 3 ∨ op = 4 ∨ op = 5 ∨ op = 6) (tb : ByteArray) (es : List Ex) (E C K A R : List (List PV)) (fn cl n off : Int) (cs : List Int) (ks : List (Int × Bool)) (ag : List (Int × Int)) (ar : List Pl) (hE : es.map Ex.cells = E) (hC : cs.map i64c = C) (hK : ks.map keyc = K) (hA : ag.map aggc = A) (hR0 : ar.map Pl.cells = R)
   (hw : (Pl.mk op tb es cs ks ag fn cl n off ar).wide) (IH : ∀ x, x ∈ ar → RBuiltC x) :
   PCall Tryz.prog 22 [.agg [.int .i64 op, .str tb, .sl E, .sl C, .sl K, .sl A, .int .i64 fn, .int .i64 cl, .int .i64 n, .int .i64 off, .sl R]] fun r => r = [.bool (builtR (Pl.mk op tb es cs ks ag fn cl n off ar))] := by
 rw [Pl.wide] at hw
 obtain ⟨⟨⟨hwL, hwE⟩, hwC, hwK, hwA, hwT, hwR⟩, _⟩ := hw
 have hwin := rwindow_c op tb E C K A R fn cl n off cs ks hC hK hwC hwK
 unfold wideM at hwE hwC hwK hwA hwT hwR
 have l1 : E.length = es.length := by rw [← hE]; simp
 have l2 : C.length = cs.length := by rw [← hC]; simp
 have l4 : A.length = ag.length := by rw [← hA]; simp
 have l3 : K.length = ks.length := by rw [← hK]; simp
 have l5 : R.length = ar.length := by rw [← hR0]; simp
 have h1 := keyCols_c ks K hK (by omega)
 obtain ⟨KL, hKL⟩ : ∃ l, (ks.map (·.1)).map i64c = l := ⟨_, rfl⟩
 rw [hKL] at h1
 have h2 := low_c cs C hC (by omega)
 have h3 := unlike_c cs C hC (by omega)
 have h4 := low_c (ks.map (·.1)) KL hKL (by rw [List.length_map]; omega)
 have h5 := unlike_c (ks.map (·.1)) KL hKL (by rw [List.length_map]; omega)
 have h6 := aggs_c ag A hA (by omega)
 have h7 := rkindsOK_c cs C hC (by omega)
 have h8 := rname_c tb (by omega)
 have h9 := low_c [n, off] [[.int .i64 n], [.int .i64 off]] rfl (by show 2 * 8 ≤ 140737488351232; decide)
 have e9 : lowM [n, off] = (decide (n < 0) || decide (off < 0)) := by simp [lowM]
 rw [e9] at h9
 have hsum : ∀ {z1 z2 z : Int}, (C.length : Int) = z1 → (A.length : Int) = z2 → IntKind.i64.wrap (z1 + z2) = z → z = (C.length : Int) + A.length := by
   rintro z1 z2 z rfl rfl h
   rw [wrap_in (by omega)] at h
   exact h.symm
 obtain ⟨aE, haE⟩ : ∃ b, es.all neatR = b := ⟨_, rfl⟩
 obtain ⟨aR, haR⟩ : ∃ b, ar.all builtR = b := ⟨_, rfl⟩
 have hok : (es.all fun e => builtM e && neatM e) = aE := by
   rw [← haE]; congr 1; funext e; exact (neatR_eq e).symm
 rw [builtR, builtRL_all, haR, hok]
 obtain ⟨ob, hob⟩ : ∃ b, opR op tb es.length cs ks ag fn cl n off ar.length = b := ⟨_, rfl⟩
 rw [hob]
 rw [← l1, ← l5] at hob
 have s0 : (⟨#[]⟩ : ByteArray).size = 0 := rfl
 rcases hop with rfl | rfl | rfl | rfl | rfl | rfl
 all_goals
   (unfold opR restR at hob
    simp (decide := true) only [List.length_nil, s0, decide_true, Bool.and_true, ← l2, ← l3, ← l4, if_false, if_true, ite_true, ite_false, or_self, or_true, true_or, or_false, false_or] at hob
    clear hok
    generalize lowM cs = a1 at *
    generalize unlikeM cs = a2 at *
    generalize lowM (ks.map (·.1)) = a3 at *
    generalize unlikeM (ks.map (·.1)) = a4 at *
    generalize aggsM ag = a5 at *
    generalize kindsOKM cs = a6 at *
    generalize idM tb = a7 at *
    generalize winR cs ks fn cl n = a8 at *
    refine PCall.x (nt := 193) (res := [.tmp 2]) mixed tt_ok [] Tryz.func22 rfl rfl rfl c22 (Nat.le_of_ble_eq_true rfl) ?_
    intro cp cc lp Q' hcp hcc hlp hQ
    repeat' (first
      | (with_reducible refine Nm.mk ?_; intro z hz)
      | (with_reducible refine IfB.mk ?_ ?_ <;> (intro h; cases h))
      | (with_reducible refine Two.l ?_; refine Asm.mk ?_ ?_; focus (decide +kernel))
      | (with_reducible refine Two.r ?_)
      | (with_reducible refine TwoT.r ?_)
      | (with_reducible refine Asm.mk ?_ ?_; focus (first | kernel_rfl | decide))
      | (with_reducible refine Asm.mk2 ?_ ?_)
      | ((fail_if_success (with_reducible first | refine hQ _ ?_ | refine Side.mk ?_ | refine isCP hcp ?_ | refine isCC hcc ?_ | refine isLP hlp ?_ | refine Ix.mk ?_ | refine SIx.mk ?_ | refine SEx.mk ?_ | refine EIx.mk ?_ | refine RIx.mk ?_ | refine LkX.mk ?_ | show False | refine hR ?_ _ ?_ ?_ ?_ ?_ ?_ | refine hR2 ?_ _ ?_ ?_ ?_ ?_ ?_)); cbv))
    simp only [nc] at hz
    simp only [nc'] at hz
    have hyl := lenZ l5 hz
    clear hz
    generalize z = yl at *
    refine loopK (ι := Int) mixed tt_ok hcp hcc hlp [1, 11, 12] (fun i => [(13, .p (.int .i64 i))]) (fun i => Rng ar.length yl i ∧ (ar.drop i.toNat).all builtR = aR) (fun i => (yl - i).toNat) 0 (fun _ => rfl) ⟨Rng.start hyl (by omega), haR⟩ ⟨rfl, trivial⟩ ?_
    rintro R2 j ⟨rj, hg⟩ hR
    have hbad : ∀ x, ar[j.toNat]? = some x → builtR x = false → aR = false := by
      intro x hx h; rw [← hg, rj.step hx, List.all_cons, h]; rfl
    have hgood : ∀ x, ar[j.toNat]? = some x → builtR x = true → (ar.drop (j + 1).toNat).all builtR = aR := by
      intro x hx h; rw [← hg, rj.step hx, List.all_cons, h]; rfl
    have hout : decide (j < yl) = false → aR = true := by
      intro h; rw [← hg, rj.end_ rfl h]; rfl
    have hih : ∀ {x : Pl} {cells : List PV}, ar[j.toNat]? = some x → x.cells = cells → PCall Tryz.prog 22 [.agg cells] fun r => r = [.bool (builtR x)] := fun hx hc => IH _ (List.mem_of_getElem? hx) _ hc
    repeat' (first
      | (with_reducible refine Nm.mk ?_; intro z hz)
      | (with_reducible refine IfB.mk ?_ ?_ <;> (intro h; cases h))
      | (with_reducible refine Two.l ?_; refine Asm.mk ?_ ?_; focus (decide +kernel))
      | (with_reducible refine Two.r ?_)
      | (with_reducible refine TwoT.r ?_)
      | (with_reducible refine Asm.mk ?_ ?_; focus kernel_rfl)
      | (with_reducible refine isCP hcp ?_; first | (refine bP hcp (hih hx hpf.cells) ?_; intro z hz))
      | (with_reducible refine isCC hcc ?_; first | (refine bA hcc (hih hx hpf.cells) rfl ?_; intro z hz))
      | (with_reducible refine Ix.plf hR0 rj.lo (rj.lt (by assumption)) ?_; intro x op' tb' E' C' K' A' fn' cl' n' off' R' es' cs' ks' ag' ar' hx hpf)
      | (with_reducible refine Asm.mk2 ?_ ?_)
      | ((fail_if_success (with_reducible first | refine hQ _ ?_ | refine Side.mk ?_ | refine isCP hcp ?_ | refine isCC hcc ?_ | refine isLP hlp ?_ | refine Ix.mk ?_ | refine SIx.mk ?_ | refine SEx.mk ?_ | refine EIx.mk ?_ | refine RIx.mk ?_ | refine LkX.mk ?_ | show False | refine hR ?_ _ ?_ ?_ ?_ ?_ ?_ | refine hR2 ?_ _ ?_ ?_ ?_ ?_ ?_)); cbv))
    all_goals first
      | (have hlt : decide (j < yl) = true := by assumption
         rw [rj.wrap hlt] at hz
         exact hR (j + 1) _ ⟨rj.next hlt, hgood _ hx (by clear hR hQ hbad hgood hout IH hpf hih hob; simp_all)⟩ (rj.less hlt) ⟨hz ▸ rfl, trivial⟩ ⟨rfl, rfl, rfl, trivial⟩ rfl)
      | (refine hQ _ ?_
         rw [hbad _ hx (by clear hR hQ hbad hgood hout IH hpf hih hob; simp_all)]
         rfl)
      | skip
    have e3 := hout (by assumption)
    rw [e3, Bool.true_and] at hQ
    clear hout hR hgood hbad hg e3 haR hih rj
    simp only [nc] at hz
    simp only [nc'] at hz
    have hzl := lenZ l1 hz
    clear hz
    generalize z = zl at *
    refine loopK (ι := Int) mixed tt_ok hcp hcc hlp [1, 22, 23] (fun i => [(24, .p (.int .i64 i))]) (fun i => Rng es.length zl i ∧ (es.drop i.toNat).all neatR = aE) (fun i => (zl - i).toNat) 0 (fun _ => rfl) ⟨Rng.start hzl (by omega), haE⟩ ⟨rfl, trivial⟩ ?_
    rintro R1 i ⟨rg, hg⟩ hR
    have hbad : ∀ x, es[i.toNat]? = some x → neatR x = false → aE = false := by
      intro x hx h; rw [← hg, rg.step hx, List.all_cons, h]; rfl
    have hgood : ∀ x, es[i.toNat]? = some x → neatR x = true → (es.drop (i + 1).toNat).all neatR = aE := by
      intro x hx h; rw [← hg, rg.step hx, List.all_cons, h, Bool.true_and]
    have hout : decide (i < zl) = false → aE = true := by
      intro h; rw [← hg, rg.end_ rfl h]; rfl
    have hne : ∀ {op' m' vk' vn' : Int} {vs' : ByteArray} {ar' : List Ex} {es' : List (List PV)}, es[i.toNat]? = some (.mk op' m' ⟨vk', vn', vs'⟩ ar') → ar'.map Ex.cells = es' → PCall Tryz.prog 53 [.agg [.int .i64 op', .int .i64 m', .int .i64 vk', .int .i64 vn', .str vs', .sl es']] fun r => r = [.bool (neatR (.mk op' m' ⟨vk', vn', vs'⟩ ar'))] := by
      intro op' m' vk' vn' vs' ar' es' hx he
      have h := rneat_all _ _ (Nat.le_refl _) (wide_mem hwL (List.mem_of_getElem? hx))
      rw [cells_mk, he] at h; exact h
    repeat' (first
      | ((with_reducible refine Nm.b false ?_ ?_); focus exact Eq.refl false)
      | ((with_reducible refine Nm.b true ?_ ?_); focus exact Eq.refl true)
      | ((with_reducible refine IfB.tt ?_ ?_); focus exact Eq.refl true)
      | ((with_reducible refine IfB.ff ?_ ?_); focus exact Eq.refl false)
      | (with_reducible refine Nm.mk ?_; intro z hz)
      | (with_reducible refine IfB.mk ?_ ?_ <;> (intro h; cases h))
      | (with_reducible refine Two.l ?_; refine Asm.mk ?_ ?_; focus (decide +kernel))
      | (with_reducible refine Two.r ?_)
      | (with_reducible refine TwoT.r ?_)
      | (with_reducible refine Asm.mk ?_ ?_; focus kernel_rfl)
      | (with_reducible refine isCP hcp ?_; first | (refine bP hcp (hne hx hes') ?_; intro z hz) | (refine bP hcp (hwin) ?_; intro z hz) | (refine bP hcp (h2) ?_; intro z hz) | (refine bP hcp (h3) ?_; intro z hz) | (refine xP hcp (h1) ?_; skip) | (refine bP hcp (h4) ?_; intro z hz) | (refine bP hcp (h5) ?_; intro z hz) | (refine bP hcp (h6) ?_; intro z hz) | (refine bP hcp (h7) ?_; intro z hz) | (refine bP hcp (h8) ?_; intro z hz) | (refine bP hcp (h9) ?_; intro z hz))
      | (with_reducible refine isCC hcc ?_; first | (refine bA hcc (hne hx hes') rfl ?_; intro z hz) | (refine bA hcc (hwin) rfl ?_; intro z hz) | (refine bA hcc (h2) rfl ?_; intro z hz) | (refine bA hcc (h3) rfl ?_; intro z hz) | (refine xA hcc (h1) rfl ?_; skip) | (refine bA hcc (h4) rfl ?_; intro z hz) | (refine bA hcc (h5) rfl ?_; intro z hz) | (refine bA hcc (h6) rfl ?_; intro z hz) | (refine bA hcc (h7) rfl ?_; intro z hz) | (refine bA hcc (h8) rfl ?_; intro z hz) | (refine bA hcc (h9) rfl ?_; intro z hz))
      | (with_reducible refine Ix.ex hE rg.lo (rg.lt (by assumption)) ?_; intro op' m' vk' vn' vs' ar' es' hx hes')
      | (with_reducible refine Asm.mk2 ?_ ?_)
      | ((fail_if_success (with_reducible first | refine hQ _ ?_ | refine Side.mk ?_ | refine isCP hcp ?_ | refine isCC hcc ?_ | refine isLP hlp ?_ | refine Ix.mk ?_ | refine SIx.mk ?_ | refine SEx.mk ?_ | refine EIx.mk ?_ | refine RIx.mk ?_ | refine LkX.mk ?_ | show False | refine hR ?_ _ ?_ ?_ ?_ ?_ ?_ | refine hR2 ?_ _ ?_ ?_ ?_ ?_ ?_)); cbv))
    all_goals first
      | (have hlt : decide (i < zl) = true := by assumption
         rw [rg.wrap hlt] at hz
         exact hR (i + 1) _ ⟨rg.next hlt, hgood _ hx (by clear hR hQ hbad hgood hout hne IH hob; simp_all)⟩ (rg.less hlt) ⟨hz ▸ rfl, trivial⟩ ⟨rfl, rfl, rfl, trivial⟩ rfl)
      | (refine hQ _ ?_
         rw [hbad _ hx (by clear hR hQ hbad hgood hout hne IH hob; simp_all)]
         rfl)
      | skip
    all_goals
      (refine hQ _ ?_
       rw [hout (by assumption), Bool.true_and]
       have hsb : sbeq tb { data := { toList := [] } } = decide (tb.size = 0) := by
         rw [Bool.eq_iff_iff, decide_eq_true_eq]; exact Iff.of_eq (sbeq_nil tb)
       have hee : sbeq { data := { toList := [] } } { data := { toList := [] } } = true := (sbeqZ _ _).2 rfl
       try replace hsum := hsum (by assumption) (by assumption) (by assumption)
       clear hQ hR hout hgood hbad hne IH hcp hcc hlp hwin h1 h2 h3 h4 h5 h6 h7 h8 h9 hg rg haE hE hC hK hA hR0 hKL
       congr 2
       rw [← hob]
       clear hob hwL l1 l2 l3 l4 l5
       try simp only [nc] at *
       try simp only [nc'] at *
       subst_vars
       try simp only [mx] at *
       try simp only [hee] at *
       simp only [Int.natCast_eq_zero, hsb] at *
       first
         | (simp only [*, Bool.true_and, Bool.false_and, Bool.and_false, Bool.and_true]; done)
         | (simp_all; done)
         | grind))
end Go.Proofs.YtlabphnonlicdaaGreat
