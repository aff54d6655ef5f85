/- Plans: what is built, by the program. Own work; no condition. -/
import Derived.Test.YtlabphnonlicdaaGreatPa44
namespace Go.Proofs.YtlabphnonlicdaaGreat
open Go Go.RowKit
set_option maxRecDepth 100000
set_option linter.unusedSimpArgs false
set_option linter.unusedVariables false
theorem IfB.tt {z : Bool} {X Y : Unit → Prop} (h : z = true) (k : X ()) : IfB z X Y := ⟨fun _ => k, fun h' => (by rw [h] at h'; cases h')⟩
theorem IfB.ff {z : Bool} {X Y : Unit → Prop} (h : z = false) (k : Y ()) : IfB z X Y := ⟨fun h' => (by rw [h] at h'; cases h'), fun _ => k⟩
def okE (e : Ex) : Bool := builtM e && neatM e
def BuiltC (p : Pl) : Prop := ∀ cells, p.cells = cells → PCall Tryz.prog 20 [.ip cells] fun r => r = [.bool (builtP p)]
theorem builtL_all : ∀ l : List Pl, builtL l = l.all builtP
 | [] => rfl
 | p :: r => by rw [builtL, builtL_all r, List.all_cons]
def fzB (a e : Int) (tb : ByteArray) (nes ncs nks nag : Int) (fn cl n off na : Int) (T C K A F N : Bool) : Bool :=
 true && manyM a na && manyM e nes && decide (nes ≤ 32) && (T || decide (tb.size = 0)) && (C || decide (ncs = 0)) && (K || decide (nks = 0)) && (A || decide (nag = 0)) &&
 (F || (decide (fn = 0) && decide (cl = 0))) && (N || decide (off = 0)) && (N || F || decide (n = 0))
def bforms : List (Bool × Bool × Bool × Bool × Bool × Bool) := [(false, false, false, false, false, false), (true, false, false, false, false, false), (false, true, false, true, false, false), (false, false, true, false, false, true), (false, true, true, false, true, false), (false, true, false, false, false, false)]
set_option maxHeartbeats 4000000 in
theorem built_b (op a e : Int) (tb : ByteArray) (es : List Ex) (E C K A R : List (List PV)) (fn cl n off : Int) (cs : List Int) (ks : List (Int × Bool)) (ag : List (Int × Int)) (ar : List Pl) {T1 T2 T3 T4 T5 T6 : Bool} (hT : (T1, T2, T3, T4, T5, T6) ∈ bforms) (hE : es.map Ex.cells = E) (hR0 : ar.map Pl.cells = R) (hwL : wideL es) (hwE : wideM 72 es.length) (hwR : wideM 72 ar.length) (IH : ∀ x, x ∈ ar → BuiltC x)
   (hf : PCall Tryz.prog 48 [.int .i64 op] fun r => r = [.agg [.int .i64 a, .int .i64 e, .bool T1, .bool T2, .bool T3, .bool T4, .bool T5, .bool T6], .bool true]) (ow : Bool)
   (ho : PCall Tryz.prog 51 [.ip [.int .i64 op, .str tb, .sl E, .sl C, .sl K, .sl A, .int .i64 fn, .int .i64 cl, .int .i64 n, .int .i64 off, .sl R]] fun r => r = [.bool ow])
   (lC : C.length = cs.length) (lK : K.length = ks.length) (lA : A.length = ag.length) :
   PCall Tryz.prog 20 [.ip [.int .i64 op, .str tb, .sl E, .sl C, .sl K, .sl A, .int .i64 fn, .int .i64 cl, .int .i64 n, .int .i64 off, .sl R]] fun r => r = [.bool (fzB a e tb E.length C.length K.length A.length fn cl n off R.length T1 T2 T3 T4 T5 T6 && es.all okE && ar.all builtP && ow)] := by
 have hEl : E.length = es.length := by rw [← hE]; simp
 have hRl : R.length = ar.length := by rw [← hR0]; simp
 unfold wideM at hwE hwR
 obtain ⟨aE, haE⟩ : ∃ b, es.all okE = b := ⟨_, rfl⟩
 obtain ⟨aR, haR⟩ : ∃ b, ar.all builtP = b := ⟨_, rfl⟩
 rw [haE, haR]
 obtain ⟨fz, hfz⟩ : ∃ b, fzB a e tb E.length C.length K.length A.length fn cl n off R.length T1 T2 T3 T4 T5 T6 = b := ⟨_, rfl⟩
 rw [hfz]
 have hm := fun h => many_c a h
 have hm2 := fun h => many_c e h
 simp only [bforms, List.mem_cons, Prod.mk.injEq, List.not_mem_nil, or_false] at hT
 rcases hT with ⟨rfl, rfl, rfl, rfl, rfl, rfl⟩ | ⟨rfl, rfl, rfl, rfl, rfl, rfl⟩ | ⟨rfl, rfl, rfl, rfl, rfl, rfl⟩ | ⟨rfl, rfl, rfl, rfl, rfl, rfl⟩ | ⟨rfl, rfl, rfl, rfl, rfl, rfl⟩ | ⟨rfl, rfl, rfl, rfl, rfl, rfl⟩
 all_goals
   (skip
    refine PCall.x (nt := 188) (res := [.tmp 2]) mixed tt_ok [] Tryz.func20 rfl rfl rfl c20 (Nat.le_of_ble_eq_true rfl) ?_
    intro cp cc lp Q' hcp hcc hlp hQ
    repeat' (first
      | ((with_reducible refine Nm.b false ?_ ?_); focus exact Eq.refl false)
      | ((with_reducible refine Nm.b true ?_ ?_); focus exact Eq.refl true)
      | ((with_reducible refine IfB.tt ?_ ?_); focus exact Eq.refl true)
      | ((with_reducible refine IfB.ff ?_ ?_); focus exact Eq.refl false)
      | (with_reducible refine Nm.mk ?_; intro z hz)
      | (with_reducible refine IfB.mk ?_ ?_ <;> (intro h; cases h))
      | (with_reducible refine Two.l ?_; refine Asm.mk ?_ ?_; focus (decide +kernel))
      | (with_reducible refine Two.r ?_)
      | (with_reducible refine TwoT.r ?_)
      | (with_reducible refine Asm.mk ?_ ?_; focus kernel_rfl)
      | (with_reducible refine isCP hcp ?_; first | (refine xP hcp (hf) ?_; skip) | (refine bP hcp (hm _) ?_; intro z hz) | (refine bP hcp (hm2 _) ?_; intro z hz))
      | (with_reducible refine isCC hcc ?_; first | (refine xA hcc (hf) rfl ?_; skip) | (refine bA hcc (hm _) rfl ?_; intro z hz) | (refine bA hcc (hm2 _) rfl ?_; intro z hz))
      | (with_reducible refine Asm.mk2 ?_ ?_)
      | ((fail_if_success (with_reducible first | refine hQ _ ?_ | refine Side.mk ?_ | refine isCP hcp ?_ | refine isCC hcc ?_ | refine isLP hlp ?_ | refine Ix.mk ?_ | refine SIx.mk ?_ | refine SEx.mk ?_ | refine EIx.mk ?_ | refine RIx.mk ?_ | refine LkX.mk ?_ | show False | refine hR ?_ _ ?_ ?_ ?_ ?_ ?_ | refine hR2 ?_ _ ?_ ?_ ?_ ?_ ?_)); cbv))
    all_goals first
      | (refine hQ _ ?_
         have hff : fz = false := by
           have hs := sbeq_nil tb
           have hs' := sbeq_nil' tb
           rw [← hfz, fzB]
           clear hQ hcp hcc hlp hf ho IH hm hm2 hfz
           try simp only [nc] at *
           try simp only [nc'] at *
           grind
         rw [hff]; rfl)
      | skip
    have hff : fz = true := by
      have hs := sbeq_nil tb
      have hs' := sbeq_nil' tb
      rw [← hfz, fzB]
      clear hQ hcp hcc hlp hf ho IH hm hm2 hfz
      clear haE haR hwL hE hR0
      try simp only [nc] at *
      try simp only [nc'] at *
      subst_vars
      simp only [Bool.not_eq_false', Bool.not_eq_true', decide_eq_true_eq, decide_eq_false_iff_not, Bool.and_eq_true, Bool.or_eq_true, Bool.true_or, Bool.false_or, Bool.true_and, sbeq_nil, sbeq_nil'] at *
      and_intros <;> first | assumption | omega
    rw [hff, Bool.true_and] at hQ
    clear hff hfz hm hm2
    simp only [nc] at hz
    simp only [nc'] at hz
    have hzl := lenZ hEl hz
    clear hz
    generalize z = zl at *
    refine loopK (ι := Int) mixed tt_ok hcp hcc hlp [0, 150, 151] (fun i => [(152, .p (.int .i64 i))]) (fun i => Rng es.length zl i ∧ (es.drop i.toNat).all okE = aE) (fun i => (zl - i).toNat) 0 (fun _ => rfl) ⟨Rng.start hzl (by omega), haE⟩ ⟨rfl, trivial⟩ ?_
    rintro R1 i ⟨rg, hg⟩ hR
    have hbad : ∀ x, es[i.toNat]? = some x → (builtM x = false ∨ neatM x = false) → aE = false := by
      intro x hx h; rw [← hg, rg.step hx, List.all_cons, okE, Bool.and_eq_false_iff, Bool.and_eq_false_iff]; exact .inl h
    have hgood : ∀ x, es[i.toNat]? = some x → builtM x = true → neatM x = true → (es.drop (i + 1).toNat).all okE = aE := by
      intro x hx h h'; rw [← hg, rg.step hx, List.all_cons, okE, h, h', Bool.true_and, Bool.true_and]
    have hout : decide (i < zl) = false → aE = true := by
      intro h; rw [← hg, rg.end_ rfl h]; rfl
    have hbt : ∀ {x : Ex} {zs : Int}, (sizeM x).1 = zs → (decide (400 < zs) = true → builtM x = false) ∧ (decide (400 < zs) = false → builtM x = true) := by
      rintro x zs h
      rw [builtM, h]
      simp only [decide_eq_true_eq, decide_eq_false_iff_not]
      omega
    have hne : ∀ {op' m' vk' vn' : Int} {vs' : ByteArray} {ar' : List Ex} {es' : List (List PV)}, es[i.toNat]? = some (.mk op' m' ⟨vk', vn', vs'⟩ ar') → ar'.map Ex.cells = es' → PCall Tryz.prog 50 [.agg [.int .i64 op', .int .i64 m', .int .i64 vk', .int .i64 vn', .str vs', .sl es']] fun r => r = [.bool (neatM (.mk op' m' ⟨vk', vn', vs'⟩ ar'))] := by
      intro op' m' vk' vn' vs' ar' es' hx he
      have h := neat_all _ _ (Nat.le_refl _) (wide_mem hwL (List.mem_of_getElem? hx))
      rw [cells_mk, he] at h; exact h
    repeat' (first
      | (with_reducible refine Nm.mk ?_; intro z hz)
      | (with_reducible refine IfB.mk ?_ ?_ <;> (intro h; cases h))
      | (with_reducible refine Two.l ?_; refine Asm.mk ?_ ?_; focus (decide +kernel))
      | (with_reducible refine Two.r ?_)
      | (with_reducible refine TwoT.r ?_)
      | (with_reducible refine Asm.mk ?_ ?_; focus kernel_rfl)
      | (with_reducible refine isCP hcp ?_; first | (refine iiP hcp (esize_c _ _ _ _ _ _ _ (by assumption)) ?_; intro z w hz hw) | (refine bP hcp (hne hx hes') ?_; intro z hz))
      | (with_reducible refine isCC hcc ?_; first | (refine iiA hcc (esize_c _ _ _ _ _ _ _ (by assumption)) rfl ?_; intro z w hz hw) | (refine bA hcc (hne hx hes') rfl ?_; intro z hz))
      | (with_reducible refine Ix.ex hE rg.lo (rg.lt (by assumption)) ?_; intro op' m' vk' vn' vs' ar' es' hx hes')
      | (with_reducible refine Asm.mk2 ?_ ?_)
      | ((fail_if_success (with_reducible first | refine hQ _ ?_ | refine Side.mk ?_ | refine isCP hcp ?_ | refine isCC hcc ?_ | refine isLP hlp ?_ | refine Ix.mk ?_ | refine SIx.mk ?_ | refine SEx.mk ?_ | refine EIx.mk ?_ | refine RIx.mk ?_ | refine LkX.mk ?_ | show False | refine hR ?_ _ ?_ ?_ ?_ ?_ ?_ | refine hR2 ?_ _ ?_ ?_ ?_ ?_ ?_)); cbv))
    all_goals first
      | (have hlt : decide (i < zl) = true := by assumption
         rw [rg.wrap hlt] at hz
         exact hR (i + 1) _ ⟨rg.next hlt, hgood _ hx ((hbt (by assumption)).2 (by assumption)) (by clear hR hQ hbad hgood hout hbt hne IH ho hf; simp_all)⟩ (rg.less hlt) ⟨hz ▸ rfl, trivial⟩ ⟨rfl, rfl, rfl, trivial⟩ rfl)
      | (refine hQ _ ?_
         rw [hbad _ hx (by first | exact .inl ((hbt (by assumption)).1 (by assumption)) | (refine .inr ?_; clear hR hQ hbad hgood hout hbt hne IH ho hf; simp_all))]
         rfl)
      | skip
    have e3 := hout (by assumption)
    rw [e3, Bool.true_and] at hQ
    clear hout hR hgood hbad hbt hne hg e3 haE
    simp only [nc] at hz
    simp only [nc'] at hz
    have hyl := lenZ hRl hz
    clear hz
    generalize z = yl at *
    refine loopK (ι := Int) mixed tt_ok hcp hcc hlp [0, 172, 173] (fun i => [(174, .p (.int .i64 i))]) (fun i => Rng ar.length yl i ∧ (ar.drop i.toNat).all builtP = aR) (fun i => (yl - i).toNat) 0 (fun _ => rfl) ⟨Rng.start hyl (by omega), haR⟩ ⟨rfl, trivial⟩ ?_
    clear rg
    rintro R2 j ⟨rj, hg⟩ hR
    have hbad : ∀ x, ar[j.toNat]? = some x → builtP x = false → aR = false := by
      intro x hx h; rw [← hg, rj.step hx, List.all_cons, h]; rfl
    have hgood : ∀ x, ar[j.toNat]? = some x → builtP x = true → (ar.drop (j + 1).toNat).all builtP = aR := by
      intro x hx h; rw [← hg, rj.step hx, List.all_cons, h]; rfl
    have hout : decide (j < yl) = false → aR = true := by
      intro h; rw [← hg, rj.end_ rfl h]; rfl
    have hih : ∀ {x : Pl} {cells : List PV}, ar[j.toNat]? = some x → x.cells = cells → PCall Tryz.prog 20 [.ip cells] fun r => r = [.bool (builtP x)] := fun hx hc => IH _ (List.mem_of_getElem? hx) _ hc
    repeat' (first
      | (with_reducible refine Nm.mk ?_; intro z hz)
      | (with_reducible refine IfB.mk ?_ ?_ <;> (intro h; cases h))
      | (with_reducible refine Two.l ?_; refine Asm.mk ?_ ?_; focus (decide +kernel))
      | (with_reducible refine Two.r ?_)
      | (with_reducible refine TwoT.r ?_)
      | (with_reducible refine Asm.mk ?_ ?_; focus kernel_rfl)
      | (with_reducible refine isCP hcp ?_; first | (refine bP hcp (hih hx hpf.cells) ?_; intro z hz) | (refine xP hcp (ho) ?_; skip))
      | (with_reducible refine isCC hcc ?_; first | (refine bA hcc (hih hx hpf.cells) rfl ?_; intro z hz) | (refine xA hcc (ho) rfl ?_; skip))
      | (with_reducible refine Ix.plf hR0 rj.lo (rj.lt (by assumption)) ?_; intro x op' tb' E' C' K' A' fn' cl' n' off' R' es' cs' ks' ag' ar' hx hpf)
      | (with_reducible refine Asm.mk2 ?_ ?_)
      | ((fail_if_success (with_reducible first | refine hQ _ ?_ | refine Side.mk ?_ | refine isCP hcp ?_ | refine isCC hcc ?_ | refine isLP hlp ?_ | refine Ix.mk ?_ | refine SIx.mk ?_ | refine SEx.mk ?_ | refine EIx.mk ?_ | refine RIx.mk ?_ | refine LkX.mk ?_ | show False | refine hR ?_ _ ?_ ?_ ?_ ?_ ?_ | refine hR2 ?_ _ ?_ ?_ ?_ ?_ ?_)); cbv))
    all_goals first
      | (have hlt : decide (j < yl) = true := by assumption
         rw [rj.wrap hlt] at hz
         exact hR (j + 1) _ ⟨rj.next hlt, hgood _ hx (by clear hR hQ hbad hgood hout IH ho hf hpf hih; simp_all)⟩ (rj.less hlt) ⟨hz ▸ rfl, trivial⟩ ⟨rfl, rfl, rfl, trivial⟩ rfl)
      | (refine hQ _ ?_
         rw [hout (by assumption)]; rfl)
      | (refine hQ _ ?_
         rw [hbad _ hx (by clear hR hQ hbad hgood hout IH ho hf hpf hih; simp_all)]
         rfl))
theorem built_no (op a e : Int) (tb : ByteArray) (E C K A R : List (List PV)) (fn cl n off : Int) (T1 T2 T3 T4 T5 T6 : Bool)
   (hf : PCall Tryz.prog 48 [.int .i64 op] fun r => r = [.agg [.int .i64 a, .int .i64 e, .bool T1, .bool T2, .bool T3, .bool T4, .bool T5, .bool T6], .bool false]) :
   PCall Tryz.prog 20 [.ip [.int .i64 op, .str tb, .sl E, .sl C, .sl K, .sl A, .int .i64 fn, .int .i64 cl, .int .i64 n, .int .i64 off, .sl R]] fun r => r = [.bool false] := by
 refine PCall.x (nt := 188) (res := [.tmp 2]) mixed tt_ok [] Tryz.func20 rfl rfl rfl c20 (Nat.le_of_ble_eq_true rfl) ?_
 intro cp cc lp Q' hcp hcc hlp hQ
 repeat' (first
   | ((with_reducible refine Nm.b false ?_ ?_); focus exact Eq.refl false)
   | ((with_reducible refine Nm.b true ?_ ?_); focus exact Eq.refl true)
   | ((with_reducible refine IfB.tt ?_ ?_); focus exact Eq.refl true)
   | ((with_reducible refine IfB.ff ?_ ?_); focus exact Eq.refl false)
   | (with_reducible refine Nm.mk ?_; intro z hz)
   | (with_reducible refine IfB.mk ?_ ?_ <;> (intro h; cases h))
   | (with_reducible refine Two.l ?_; refine Asm.mk ?_ ?_; focus (decide +kernel))
   | (with_reducible refine Two.r ?_)
   | (with_reducible refine TwoT.r ?_)
   | (with_reducible refine Asm.mk ?_ ?_; focus kernel_rfl)
   | (with_reducible refine isCP hcp ?_; first | (refine xP hcp (hf) ?_; skip))
   | (with_reducible refine isCC hcc ?_; first | (refine xA hcc (hf) rfl ?_; skip))
   | (with_reducible refine Asm.mk2 ?_ ?_)
   | ((fail_if_success (with_reducible first | refine hQ _ ?_ | refine Side.mk ?_ | refine isCP hcp ?_ | refine isCC hcc ?_ | refine isLP hlp ?_ | refine Ix.mk ?_ | refine SIx.mk ?_ | refine SEx.mk ?_ | refine EIx.mk ?_ | refine RIx.mk ?_ | refine LkX.mk ?_ | show False | refine hR ?_ _ ?_ ?_ ?_ ?_ ?_ | refine hR2 ?_ _ ?_ ?_ ?_ ?_ ?_)); cbv))
 all_goals exact hQ _ rfl
end Go.Proofs.YtlabphnonlicdaaGreat
