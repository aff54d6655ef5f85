/- Expressions: Strict, its two functions. Own work; no condition. -/
import Derived.Test.YtnhmnfokbinplaaEx11
namespace Go.Proofs.Ytnhmnfokbinplaa
open Go Go.RowKit
set_option maxRecDepth 100000
set_option linter.unusedSimpArgs false
set_option linter.unusedVariables false

theorem indexNull_c (cs : List Int) (C : List (List PV)) (ar : List Ex) (es : List (List PV)) (hes : ar.map Ex.cells = es) (hs : wideN ar.length) (hp : ∀ e, e ∈ ar → NullC cs C e) :
    ACall Try.prog 181 [.p (.sl es), .fn 120 [.ref 0 0, .ref 1 0]] (nullH C) fun r H' => r = .p (.int .i64 (idxI (nullM cs) ar 0)) ∧ takeX H' 2 = nullH C := by
  have hel : es.length = ar.length := by rw [← hes]; simp
  unfold wideN at hs
  obtain ⟨q, hq⟩ : ∃ q, idxI (nullM cs) ar 0 = q := ⟨_, rfl⟩
  rw [hq]
  have hpc : ∀ (op' m' vk' vn' : Int) (vs' : ByteArray) (ar' : List Ex) (es' : List (List PV)) (i : Nat), ar[i]? = some (.mk op' m' ⟨vk', vn', vs'⟩ ar') → ar'.map Ex.cells = es' → ∃ b, nullM cs (.mk op' m' ⟨vk', vn', vs'⟩ ar') = b ∧
      ACall Try.prog 120 [.p (.agg [.int .i64 op', .int .i64 m', .int .i64 vk', .int .i64 vn', .str vs', .sl es']), .ref 0 0, .ref 1 0] (nullH C) fun r H' => r = .p (.bool b) ∧ takeX H' 2 = nullH C := by
    intro op' m' vk' vn' vs' ar' es' i hx he
    have := hp _ (List.mem_of_getElem? hx)
    unfold NullC at this
    rw [cells_mk, he] at this
    exact ⟨_, rfl, this⟩
  refine ACall.x (nt := 19) (res := [.tmp 4]) mixed tt_ok [] Try.func181 rfl rfl rfl c181 (Nat.le_of_ble_eq_true rfl) ?_
  intro cp cc lp Q' hcp hcc hlp hQ
  repeat' (first
    | (with_reducible refine Nm.mk ?_; intro z hz)
    | (with_reducible refine IfB.mk ?_ ?_ <;> (intro h; cases h))
    | (with_reducible refine Asm.mk ?_ ?_; focus (first | kernel_rfl | decide))
    | (with_reducible refine Asm.mk2 ?_ ?_)
    | ((fail_if_success (with_reducible refine hQ _ _ ?_)); (fail_if_success (with_reducible refine Side.mk ?_)); (fail_if_success (with_reducible refine isCP hcp ?_)); (fail_if_success (with_reducible refine isCC hcc ?_)); (fail_if_success (with_reducible refine isLP hlp ?_)); (fail_if_success (with_reducible refine Ix.mk ?_)); (fail_if_success (with_reducible refine SIx.mk ?_)); (fail_if_success (with_reducible refine SEx.mk ?_)); (fail_if_success (with_reducible refine EIx.mk ?_)); (fail_if_success (with_reducible show False)); (fail_if_success (with_reducible refine hR ?_ _ ?_ ?_ ?_ ?_ ?_)); (fail_if_success (with_reducible refine hR2 ?_ _ ?_ ?_ ?_ ?_ ?_)); cbv))
  simp only [nc] at hz
  simp only [nc'] at hz
  have hzl := hz
  clear hz
  rename Int => zl
  refine loopK (ι := Int) mixed tt_ok hcp hcc hlp [0, 1, 7] (fun i => [(8, .p (.int .i64 i))]) (fun i => 0 ≤ i ∧ i ≤ zl ∧ idxI (nullM cs) (ar.drop i.toNat) i = q) (fun i => (zl - i).toNat) 0 (fun _ => rfl) ⟨by omega, by omega, hq⟩ ⟨rfl, trivial⟩ ?_
  rintro R i ⟨hi0, hi1, hiq⟩ hR
  have hk : decide (i < zl) = true → i < ar.length := by simp only [decide_eq_true_eq]; omega
  have hst : decide (i < zl) = true → IntKind.i64.wrap (i + 1) = i + 1 ∧ (0 ≤ i + 1 ∧ i + 1 ≤ zl) ∧ (zl - (i + 1)).toNat < (zl - i).toNat := by
    intro h
    have hlt := hk h
    simp only [decide_eq_true_eq] at h
    exact ⟨wrap_in (by omega), by omega, by omega⟩
  have hstep : ∀ x, ar[i.toNat]? = some x → q = if nullM cs x = true then i else idxI (nullM cs) (ar.drop (i + 1).toNat) (i + 1) := by
    intro x hx
    have hlt := (List.getElem?_eq_some_iff.1 hx).1
    rw [← hiq, List.drop_eq_getElem_cons hlt, show (i + 1).toNat = i.toNat + 1 by omega, idxI]
    rw [(List.getElem?_eq_some_iff.1 hx).2]
  have hfin : decide (i < zl) = false → q = -1 := by
    simp only [decide_eq_false_iff_not]; intro h
    rw [← hiq, List.drop_eq_nil_of_le (by omega)]; rfl
  repeat' (first
    | (with_reducible refine Nm.mk ?_; intro z hz)
    | (with_reducible refine IfB.mk ?_ ?_ <;> (intro h; cases h))
    | (with_reducible refine Asm.mk ?_ ?_; focus kernel_rfl)
    | (with_reducible refine Ix.ex hes hi0 (hk (by assumption)) ?_; intro op' m' vk' vn' vs' ar' es' hx hes')
    | (with_reducible refine isCC hcc ?_; obtain ⟨b', hb', hcall⟩ := hpc _ _ _ _ _ _ _ i.toNat hx hes'; refine frameA (H1 := nullH C) hcc [0, 1] hcall rfl rfl rfl rfl rfl ?_)
    | (with_reducible refine Asm.mk2 ?_ ?_)
    | ((fail_if_success (with_reducible refine hQ _ _ ?_)); (fail_if_success (with_reducible refine Side.mk ?_)); (fail_if_success (with_reducible refine isCP hcp ?_)); (fail_if_success (with_reducible refine isCC hcc ?_)); (fail_if_success (with_reducible refine isLP hlp ?_)); (fail_if_success (with_reducible refine Ix.mk ?_)); (fail_if_success (with_reducible refine SIx.mk ?_)); (fail_if_success (with_reducible refine SEx.mk ?_)); (fail_if_success (with_reducible refine EIx.mk ?_)); (fail_if_success (with_reducible show False)); (fail_if_success (with_reducible refine hR ?_ _ ?_ ?_ ?_ ?_ ?_)); (fail_if_success (with_reducible refine hR2 ?_ _ ?_ ?_ ?_ ?_ ?_)); cbv))
  all_goals first
    | (have e := hstep _ hx
       obtain ⟨e1, u, mu⟩ := hst (by assumption)
       first
         | (refine hQ _ _ ⟨?_, rfl⟩
            rw [e, if_pos hb']
            rfl)
         | (rw [e1] at hz
            rw [hb', if_neg (by decide)] at e
            exact hR (i + 1) _ ⟨u.1, u.2, e.symm⟩ mu ⟨hz ▸ rfl, trivial⟩ ⟨rfl, rfl, rfl, trivial⟩ rfl))
    | (refine hQ _ _ ⟨?_, rfl⟩
       rw [hfin (by assumption)]
       rfl)
theorem containsNull_c (cs : List Int) (C : List (List PV)) (ar : List Ex) (es : List (List PV)) (hes : ar.map Ex.cells = es) (hs : wideN ar.length) (hp : ∀ e, e ∈ ar → NullC cs C e) :
    ACall Try.prog 122 [.p (.sl es), .fn 120 [.ref 0 0, .ref 1 0]] (nullH C) fun r H' => r = .p (.bool (ar.any (nullM cs))) ∧ takeX H' 2 = nullH C := by
  have h := indexNull_c cs C ar es hes hs hp
  have ha := idxI_any (nullM cs) ar 0 (by decide)
  obtain ⟨q, hq⟩ : ∃ q, idxI (nullM cs) ar 0 = q := ⟨_, rfl⟩
  rw [hq] at h ha
  refine ACall.x (nt := 9) (res := [.tmp 4]) mixed tt_ok [] Try.func122 rfl rfl rfl c122 (Nat.le_of_ble_eq_true rfl) ?_
  intro cp cc lp Q' hcp hcc hlp hQ
  repeat' (first
    | (with_reducible refine Nm.mk ?_; intro z hz)
    | (with_reducible refine IfB.mk ?_ ?_ <;> (intro h; cases h))
    | (with_reducible refine Asm.mk ?_ ?_; focus kernel_rfl)
    | (with_reducible refine isCC hcc ?_; refine frameA (H1 := nullH C) hcc [0, 1] h rfl rfl rfl rfl rfl ?_)
    | (with_reducible refine Asm.mk2 ?_ ?_)
    | ((fail_if_success (with_reducible refine hQ _ _ ?_)); (fail_if_success (with_reducible refine Side.mk ?_)); (fail_if_success (with_reducible refine isCP hcp ?_)); (fail_if_success (with_reducible refine isCC hcc ?_)); (fail_if_success (with_reducible refine isLP hlp ?_)); (fail_if_success (with_reducible refine Ix.mk ?_)); (fail_if_success (with_reducible refine SIx.mk ?_)); (fail_if_success (with_reducible refine SEx.mk ?_)); (fail_if_success (with_reducible refine EIx.mk ?_)); (fail_if_success (with_reducible show False)); (fail_if_success (with_reducible refine hR ?_ _ ?_ ?_ ?_ ?_ ?_)); (fail_if_success (with_reducible refine hR2 ?_ _ ?_ ?_ ?_ ?_ ?_)); cbv))
  all_goals
    (refine hQ _ _ ⟨?_, rfl⟩
     clear hQ hcp hcc hlp h hp
     have e : z = ar.any (nullM cs) := by rw [← hz, Bool.eq_iff_iff, ← ha]; simp
     rw [← e]
     rfl)
theorem null1_c (cs : List Int) (C : List (List PV)) (hC : cs.map i64c = C) (hcl : cs.length ≤ 140737488355328) (op n vk vn : Int) (vs : ByteArray) (ar : List Ex) (es : List (List PV)) (hes : ar.map Ex.cells = es) (hs : wideN ar.length) (hp : ∀ e, e ∈ ar → NullC cs C e) :
    ACall Try.prog 120 [.p (.agg [.int .i64 op, .int .i64 n, .int .i64 vk, .int .i64 vn, .str vs, .sl es]), .ref 0 0, .ref 1 0] (nullH C) fun r H' => r = .p (.bool (nullM cs (.mk op n ⟨vk, vn, vs⟩ ar))) ∧ takeX H' 2 = nullH C := by
  have hcon := contains_c n cs C hC hcl
  have hca := containsNull_c cs C ar es hes hs hp
  obtain ⟨q, hq⟩ : ∃ q, nullM cs (.mk op n ⟨vk, vn, vs⟩ ar) = q := ⟨_, rfl⟩
  rw [hq]
  rw [nullM, nullL_any] at hq
  obtain ⟨q1, hq1⟩ : ∃ q1, ar.any (nullM cs) = q1 := ⟨_, rfl⟩
  rw [hq1] at hq hca
  refine ACall.x (nt := 29) (res := [.tmp 4]) mixed tt_ok [] Try.func120 rfl rfl rfl c120 (Nat.le_of_ble_eq_true rfl) ?_
  intro cp cc lp Q' hcp hcc hlp hQ
  repeat' (first
    | (with_reducible refine Nm.mk ?_; intro z hz)
    | (with_reducible refine IfB.mk ?_ ?_ <;> (intro h; cases h))
    | (with_reducible refine Asm.mk ?_ ?_; focus kernel_rfl)
    | (with_reducible refine isCP hcp ?_; first | (refine bP hcp (hcon) ?_; intro z hz) | (refine vP hcp (clean_c vk vn vs) ?_; intro v hv))
    | (with_reducible refine isCC hcc ?_; first | (refine bA hcc (hcon) rfl ?_; intro z hz) | (refine vA hcc (clean_c vk vn vs) rfl ?_; intro v hv))
    | (with_reducible refine isCC hcc ?_; refine frameA (H1 := nullH C) hcc [0, 1] hca rfl rfl rfl rfl rfl ?_)
    | (with_reducible refine Asm.mk2 ?_ ?_)
    | ((fail_if_success (with_reducible refine hQ _ _ ?_)); (fail_if_success (with_reducible refine Side.mk ?_)); (fail_if_success (with_reducible refine isCP hcp ?_)); (fail_if_success (with_reducible refine isCC hcc ?_)); (fail_if_success (with_reducible refine isLP hlp ?_)); (fail_if_success (with_reducible refine Ix.mk ?_)); (fail_if_success (with_reducible refine SIx.mk ?_)); (fail_if_success (with_reducible refine SEx.mk ?_)); (fail_if_success (with_reducible refine EIx.mk ?_)); (fail_if_success (with_reducible show False)); (fail_if_success (with_reducible refine hR ?_ _ ?_ ?_ ?_ ?_ ?_)); (fail_if_success (with_reducible refine hR2 ?_ _ ?_ ?_ ?_ ?_ ?_)); cbv))
  all_goals
    (refine hQ _ _ ⟨?_, rfl⟩
     clear hQ hcp hcc hlp hca hcon hp hq1 hes hC hcl hs
     show AV.p (PV.bool _) = AV.p (PV.bool _)
     congr 2
     rw [← hq]
     simp_all)
mutual
theorem null_all (cs : List Int) (C : List (List PV)) (hC : cs.map i64c = C) (hcl : cs.length ≤ 140737488355328) : ∀ e : Ex, e.wide → NullC cs C e
  | .mk op n v ar, hw => by
    unfold NullC
    rw [cells_mk]
    exact null1_c cs C hC hcl op n _ _ _ ar _ rfl hw.1 (null_allL cs C hC hcl ar hw.2)
theorem null_allL (cs : List Int) (C : List (List PV)) (hC : cs.map i64c = C) (hcl : cs.length ≤ 140737488355328) : ∀ l : List Ex, wideL l → ∀ e, e ∈ l → NullC cs C e
  | [], _, e, he => absurd he (by simp)
  | x :: r, hw, e, he => by
    rcases List.mem_cons.1 he with h | he
    · exact h ▸ null_all cs C hC hcl x hw.1
    · exact null_allL cs C hC hcl r hw.2 e he
end

def UntrueC (cs : List Int) (C : List (List PV)) (e : Ex) : Prop := ACall Try.prog 123 [.p (.agg e.cells), .ref 1 0, .ref 2 0] (untrueH C) fun r H' => r = .p (.bool (untrueM cs e)) ∧ takeX H' 3 = untrueH C
set_option maxHeartbeats 4000000 in
theorem untrue1_c (cs : List Int) (C : List (List PV)) (hC : cs.map i64c = C) (hcl : cs.length ≤ 140737488355328) (op n vk vn : Int) (vs : ByteArray) (ar : List Ex) (es : List (List PV)) (hes : ar.map Ex.cells = es) (hg : goodE (.mk op n ⟨vk, vn, vs⟩ ar) = true) (hp : ∀ e, e ∈ ar → UntrueC cs C e) :
    ACall Try.prog 123 [.p (.agg [.int .i64 op, .int .i64 n, .int .i64 vk, .int .i64 vn, .str vs, .sl es]), .ref 1 0, .ref 2 0] (untrueH C) fun r H' => r = .p (.bool (untrueM cs (.mk op n ⟨vk, vn, vs⟩ ar))) ∧ takeX H' 3 = untrueH C := by
  have hel : es.length = ar.length := by rw [← hes]; simp
  have hn := null_all cs C hC hcl _ (good_wide _ hg)
  unfold NullC at hn
  rw [cells_mk, hes] at hn
  simp only [goodE, Bool.and_eq_true, Bool.not_eq_true'] at hg
  have ha := badE_arity hg.1
  have hl19 : op = 19 → 2 = ar.length := by rintro rfl; simp [arityE] at ha; omega
  have hl20 : op = 20 → 2 = ar.length := by rintro rfl; simp [arityE] at ha; omega
  obtain ⟨q, hq⟩ : ∃ q, untrueM cs (.mk op n ⟨vk, vn, vs⟩ ar) = q := ⟨_, rfl⟩
  rw [hq]
  rw [untrueM, untrueL_eq] at hq
  obtain ⟨qn, hqn⟩ : ∃ q1, nullM cs (.mk op n ⟨vk, vn, vs⟩ ar) = q1 := ⟨_, rfl⟩
  rw [hqn] at hq hn
  have hpc : ∀ (i : Int) (b : Bool), ((ar.map (untrueM cs))[i.toNat]?).getD false = b → ∀ (op' m' vk' vn' : Int) (vs' : ByteArray) (ar' : List Ex) (es' : List (List PV)), ar[i.toNat]? = some (.mk op' m' ⟨vk', vn', vs'⟩ ar') → ar'.map Ex.cells = es' →
      ACall Try.prog 123 [.p (.agg [.int .i64 op', .int .i64 m', .int .i64 vk', .int .i64 vn', .str vs', .sl es']), .ref 1 0, .ref 2 0] (untrueH C) fun r H' => r = .p (.bool b) ∧ takeX H' 3 = untrueH C := by
    rintro i b rfl op' m' vk' vn' vs' ar' es' hx he
    have := hp _ (List.mem_of_getElem? hx)
    unfold UntrueC at this
    rw [cells_mk, he] at this
    rw [List.getElem?_map, hx]
    exact this
  obtain ⟨u0, hu0⟩ : ∃ u, ((ar.map (untrueM cs))[0]?).getD false = u := ⟨_, rfl⟩
  obtain ⟨u1, hu1⟩ : ∃ u, ((ar.map (untrueM cs))[1]?).getD false = u := ⟨_, rfl⟩
  have hpc0 := hpc 0 u0 hu0
  have hpc1 := hpc 1 u1 hu1
  rw [hu0, hu1] at hq
  clear hpc hu0 hu1
  have i0 : decide (op = 19) = true → (0 : Int) < ar.length := fun h => by have := hl19 (of_decide_eq_true h); omega
  have i1 : decide (op = 19) = true → (1 : Int) < ar.length := fun h => by have := hl19 (of_decide_eq_true h); omega
  have j0 : decide (op = 20) = true → (0 : Int) < ar.length := fun h => by have := hl20 (of_decide_eq_true h); omega
  have j1 : decide (op = 20) = true → (1 : Int) < ar.length := fun h => by have := hl20 (of_decide_eq_true h); omega
  have ht := true_c vk vn vs
  clear hp ha hl19 hl20 hg
  refine ACall.x (nt := 48) (res := [.tmp 4]) mixed tt_ok [] Try.func123 rfl rfl rfl c123 (Nat.le_of_ble_eq_true rfl) ?_
  intro cp cc lp Q' hcp hcc hlp hQ
  repeat' (first
    | (with_reducible refine Nm.mk ?_; intro z hz)
    | (with_reducible refine IfB.mk ?_ ?_ <;> (intro h; cases h))
    | (with_reducible refine Asm.mk ?_ ?_; focus kernel_rfl)
    | (with_reducible refine isCP hcp ?_; first | (refine bP hcp (ht) ?_; intro z hz))
    | (with_reducible refine isCC hcc ?_; first | (refine bA hcc (ht) rfl ?_; intro z hz))
    | (with_reducible refine isCC hcc ?_; refine frameP (H1 := nullH C) hcc [0, 1] hn rfl rfl rfl rfl rfl rfl rfl ?_)
    | (with_reducible refine Ix.ex (i := 0) hes (by decide) (by first | exact i0 (by assumption) | exact j0 (by assumption)) ?_; intro op0 m0 vk0 vn0 vs0 ar0 es0 hx0 hes0)
    | (with_reducible refine Ix.ex (i := 1) hes (by decide) (by first | exact i1 (by assumption) | exact j1 (by assumption)) ?_; intro op1 m1 vk1 vn1 vs1 ar1 es1 hx1 hes1)
    | (with_reducible refine isCC hcc ?_; refine frameA (H1 := untrueH C) hcc [0, 1, 2] (hpc0 _ _ _ _ _ _ _ (by assumption) (by assumption)) rfl rfl rfl rfl rfl ?_)
    | (with_reducible refine isCC hcc ?_; refine frameA (H1 := untrueH C) hcc [0, 1, 2] (hpc1 _ _ _ _ _ _ _ (by assumption) (by assumption)) rfl rfl rfl rfl rfl ?_)
    | (with_reducible refine Asm.mk2 ?_ ?_)
    | ((fail_if_success (with_reducible refine hQ _ _ ?_)); (fail_if_success (with_reducible refine Side.mk ?_)); (fail_if_success (with_reducible refine isCP hcp ?_)); (fail_if_success (with_reducible refine isCC hcc ?_)); (fail_if_success (with_reducible refine isLP hlp ?_)); (fail_if_success (with_reducible refine Ix.mk ?_)); (fail_if_success (with_reducible refine SIx.mk ?_)); (fail_if_success (with_reducible refine SEx.mk ?_)); (fail_if_success (with_reducible refine EIx.mk ?_)); (fail_if_success (with_reducible show False)); (fail_if_success (with_reducible refine hR ?_ _ ?_ ?_ ?_ ?_ ?_)); (fail_if_success (with_reducible refine hR2 ?_ _ ?_ ?_ ?_ ?_ ?_)); cbv))
  all_goals
    (refine hQ _ _ ⟨?_, rfl⟩
     clear hQ hcp hcc hlp hn hpc0 hpc1 ht i0 i1 j0 j1 hC hcl hes hel
     show AV.p (PV.bool _) = AV.p (PV.bool _)
     congr 2 <;> (rw [← hq] <;> simp_all))
mutual
theorem untrue_all (cs : List Int) (C : List (List PV)) (hC : cs.map i64c = C) (hcl : cs.length ≤ 140737488355328) : ∀ e : Ex, goodE e = true → UntrueC cs C e
  | .mk op n ⟨vk, vn, vs⟩ ar, hg => by
    have hg' := hg
    simp only [goodE, Bool.and_eq_true] at hg'
    unfold UntrueC
    rw [cells_mk]
    exact untrue1_c cs C hC hcl op n vk vn vs ar _ rfl hg (untrue_allL cs C hC hcl ar hg'.2)
theorem untrue_allL (cs : List Int) (C : List (List PV)) (hC : cs.map i64c = C) (hcl : cs.length ≤ 140737488355328) : ∀ l : List Ex, goodL l = true → ∀ e, e ∈ l → UntrueC cs C e
  | [], _, e, he => absurd he (by simp)
  | x :: r, hg, e, he => by
    simp only [goodL, Bool.and_eq_true] at hg
    rcases List.mem_cons.1 he with h | he
    · exact h ▸ untrue_all cs C hC hcl x hg.1
    · exact untrue_allL cs C hC hcl r hg.2 e he
end
end Go.Proofs.Ytnhmnfokbinplaa
