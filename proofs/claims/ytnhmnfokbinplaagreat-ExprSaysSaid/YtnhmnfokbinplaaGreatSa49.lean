/- Expressions: tallyref's Neat and Parts; tallyref: SameExpr of the same; both All; tallyref: Strict, Eval; lists of expressions that are the same; Expressions: Fold, its parts; the law ExprFolds; Expressions: Fold; the law ExprFolds; tallyref: fold; Expressions: tallyref's ColumnsOf, its function; Expressions: tallyref's ColumnsOf; Expressions: tallyref's Kind; expr: Columns, what each does; Expressions: Strict; Expressions: Strict, its two functions; Expressions: the law ExprStrict; Expressions: whether a column is lost, as the other text finds it; Expressions: kinds that do not fit, as the other text finds them; Expressions: the kind as the program works it out, plain; Expressions: the kind as the program works it out, walked; Expressions: the program's Kind. Own work; no condition. -/
import Derived.Test.YtnhmnfokbinplaaGreatSa48
import Derived.Test.YtnhmnfokbinplaaGreatAbsQ
import Derived.Test.YtnhmnfokbinplaaGreatSa47
import Derived.Test.YtnhmnfokbinplaaGreatAbsU
import Derived.Test.YtnhmnfokbinplaaGreatAbsF
import Derived.Test.YtnhmnfokbinplaaGreatAbsP
namespace Go.Proofs.YtnhmnfokbinplaaGreat
open Go Go.RowKit
set_option maxRecDepth 100000
set_option linter.unusedSimpArgs false
set_option linter.unusedVariables false

set_option maxHeartbeats 1000000 in
theorem neat_c (op n : Int) (v : Val) (ar : List Ex) (es : List (List PV)) (hes : ar.map Ex.cells = es) (hs : wideN ar.length)
    (IH : ∀ x, x ∈ ar → PCall Tryz.prog 43 [.agg x.cells] fun r => r = [.agg (mapE id x).cells]) :
    PCall Tryz.prog 43 [.agg [.int .i64 op, .int .i64 n, .int .i64 v.k, .int .i64 v.n, .str v.s, .sl es]] fun r => r = [.agg (mapE id (.mk op n v ar)).cells] := by
  have hel : es.length = ar.length := by rw [← hes]; simp
  obtain ⟨q, hq⟩ : ∃ q, mapE id (.mk op n v ar) = q := ⟨_, rfl⟩
  rw [hq]
  rw [mapE, mapL_eq] at hq
  obtain ⟨vk, vn, vs⟩ := v
  unfold wideN at hs
  have hmc : ∀ (op' m' vk' vn' : Int) (vs' : ByteArray) (ar' : List Ex) (es' : List (List PV)) (i : Nat), ar[i]? = some (.mk op' m' ⟨vk', vn', vs'⟩ ar') → ar'.map Ex.cells = es' →
      PCall Tryz.prog 43 [.agg [.int .i64 op', .int .i64 m', .int .i64 vk', .int .i64 vn', .str vs', .sl es']] fun r => r = [.agg (mapE id (.mk op' m' ⟨vk', vn', vs'⟩ ar')).cells] := by
    intro op' m' vk' vn' vs' ar' es' i hx he
    have := IH _ (List.mem_of_getElem? hx)
    rw [cells_mk, he] at this
    exact this
  refine PCall.x (nt := 38) (res := [.cell 2 26]) mixed tt_ok [] Tryz.func43 rfl rfl rfl c43 (Nat.le_of_ble_eq_true rfl) ?_
  intro cp cc lp Q' hcp hcc hlp hQ
  repeat' (first
    | (with_reducible refine Nm.mk ?_; intro z hz)
    | (with_reducible refine IfB.mk ?_ ?_ <;> (intro h; cases h))
    | (with_reducible refine Two.l ?_; refine Asm.mk ?_ ?_; focus (decide +kernel))
    | (with_reducible refine Two.r ?_)
    | (with_reducible refine Asm.mk ?_ ?_; focus (first | kernel_rfl | decide))
    | (with_reducible refine isCP hcp ?_; first | (refine vP hcp (rclean_c vk vn vs) ?_; intro v hv))
    | (with_reducible refine isCC hcc ?_; first | (refine vA hcc (rclean_c vk vn vs) rfl ?_; intro v hv))
    | (with_reducible refine Asm.mk2 ?_ ?_)
    | ((fail_if_success (with_reducible first | refine hQ _ ?_ | refine Side.mk ?_ | refine isCP hcp ?_ | refine isCC hcc ?_ | refine isLP hlp ?_ | refine Ix.mk ?_ | refine SIx.mk ?_ | refine SEx.mk ?_ | refine EIx.mk ?_ | refine RIx.mk ?_ | show False | refine hR ?_ _ ?_ ?_ ?_ ?_ ?_ | refine hR2 ?_ _ ?_ ?_ ?_ ?_ ?_)); cbv))
  · exfalso
    have e1 : op = 2 := of_decide_eq_true (by assumption)
    have e2 : op = 1 := of_decide_eq_true (by assumption)
    omega
  · have hq' : Ex.mk op 0 ⟨v.k, v.n, v.s⟩ (ar.map (mapE id)) = q := by
      rw [← hq]
      clear hQ hcp hcc hlp hmc IH
      first
        | (have e : op = 1 := of_decide_eq_true (by assumption)
           subst e; rfl)
        | (have e : op = 2 := of_decide_eq_true (by assumption)
           subst e; subst_vars; rfl)
        | (have e1 : ¬ op = 1 := of_decide_eq_false (by assumption)
           have e2 : ¬ op = 2 := of_decide_eq_false (by assumption)
           rw [if_neg e1, if_neg e1, if_neg e2]; rfl)
    clear hq
    simp only [nc] at hz
    simp only [nc'] at hz
    have hzl := lenZ (n := ar.length) hel hz
    clear hz
    rename Int => zl
    refine mintX hlp 6 2 5 rfl rfl ?_
    refine loopT (ι := Int × List (List PV) × Nat) mixed tt_ok hcp hcc hlp [2, 3, 23, 24] (fun p => [(25, .p (.int .i64 p.1))])
      (fun p => [.cells [.p (.int .i64 op), .p (.int .i64 n), .p (.int .i64 vk), .p (.int .i64 vn), .p (.str vs), .p (.sl es)], .cells [.p (.int .i64 0), .p (.int .i64 0), .p (.int .i64 0), .p (.int .i64 0), .p (.str ⟨⟨[]⟩⟩), .full []],
        .cells [.p (.int .i64 op), .p (.int .i64 0), .p (.int .i64 v.k), .p (.int .i64 v.n), .p (.str v.s), .tok 3 p.2.1], .spare p.2.2 6])
      (fun p => Rng ar.length zl p.1 ∧ (ar.take p.1.toNat).map (fun e => (mapE id e).cells) = p.2.1 ∧ p.2.1.length = p.2.2) (fun p => (zl - p.1).toNat)
      (0, [], 0) 4 (fun _ => rfl) ⟨Rng.start hzl (by omega), by simp, rfl⟩ ⟨rfl, trivial⟩ rfl ?_
    rintro R ⟨i, L, m⟩ ⟨rg, hl, hm⟩ hR
    replace rg : Rng ar.length zl i := rg
    replace hl : (ar.take i.toNat).map (fun e => (mapE id e).cells) = L := hl
    replace hm : L.length = m := hm
    have hll : L.length ≤ i.toNat := by rw [← hl]; simp; omega
    have hok : okEs 6 L = true := by
      rw [← hl, show (fun e => (mapE id e).cells) = Ex.cells ∘ mapE id from rfl, ← List.map_map]; exact okEs_cells _
    have hst : decide (i < zl) = true → L.length + 1 ≤ maxLen ∧ (L.length + 1) * 72 ≤ 140737488355328 := by
      intro h
      have hlt := rg.ltN h
      refine ⟨by simp only [maxLen]; omega, by omega⟩
    have hfin : decide (i < zl) = false → (ar.map (mapE id)).map Ex.cells = L := by
      intro h
      rw [← hl, rg.take_ rfl h, List.map_map]; rfl
    repeat' (first
      | (with_reducible refine Nm.mk ?_; intro z hz)
      | (with_reducible refine IfB.mk ?_ ?_ <;> (intro h; cases h))
      | (with_reducible refine Two.l ?_; refine Asm.mk ?_ ?_; focus (decide +kernel))
      | (with_reducible refine Two.r ?_)
      | (with_reducible refine Asm.mk ?_ ?_; focus kernel_rfl)
      | (with_reducible refine isCP hcp ?_; first | (refine exP hcp (hmc _ _ _ _ _ _ _ i.toNat (by assumption) (by assumption)) ?_; intro op2 n2 vk2 vn2 vs2 ar2 es2 hX hes2))
      | (with_reducible refine isCC hcc ?_; first | (refine exA hcc (hmc _ _ _ _ _ _ _ i.toNat (by assumption) (by assumption)) rfl ?_; intro op2 n2 vk2 vn2 vs2 ar2 es2 hX hes2))
      | (with_reducible refine Ix.ex hes rg.lo (rg.lt (by assumption)) ?_; intro op' m' vk' vn' vs' ar' es' hx hes')
      | (with_reducible refine Asm.mk2 ?_ ?_)
      | ((fail_if_success (with_reducible first | refine hQ _ ?_ | refine Side.mk ?_ | refine isCP hcp ?_ | refine isCC hcc ?_ | refine isLP hlp ?_ | refine Ix.mk ?_ | refine SIx.mk ?_ | refine SEx.mk ?_ | refine EIx.mk ?_ | refine RIx.mk ?_ | show False | refine hR ?_ _ ?_ ?_ ?_ ?_ ?_ | refine hR2 ?_ _ ?_ ?_ ?_ ?_ ?_)); cbv))
    · refine Side.mk ?_
      obtain ⟨u1, u2⟩ := hst (by assumption)
      exact ⟨hm.symm, rfl, hok, rfl, u1, u2⟩
    · have hlt : decide (i < zl) = true := by assumption
      rw [rg.wrap hlt] at hz
      rename_i L2 hL2 m2 hm2
      refine hR (i + 1, _, _) _ ⟨rg.next hlt, ?_, ?_⟩ (rg.less hlt) ⟨hz ▸ rfl, trivial⟩ ⟨rfl, rfl, rfl, rfl, trivial⟩ rfl
      · show (ar.take (i + 1).toNat).map (fun e => (mapE id e).cells) = L2
        rw [rg.take hx, List.map_append, hl, ← hL2]
        simp only [List.map_cons, List.map_nil, hX, cells_mk, hes2]
      · show L2.length = m2
        rw [← hL2, ← hm2, List.length_append]
    · refine hQ _ ?_
      rw [← hq', cells_mk, hfin (by assumption)]
  · have hq' : Ex.mk op n ⟨0, 0, ⟨⟨[]⟩⟩⟩ (ar.map (mapE id)) = q := by
      rw [← hq]
      clear hQ hcp hcc hlp hmc IH
      first
        | (have e : op = 1 := of_decide_eq_true (by assumption)
           subst e; rfl)
        | (have e : op = 2 := of_decide_eq_true (by assumption)
           subst e; subst_vars; rfl)
        | (have e1 : ¬ op = 1 := of_decide_eq_false (by assumption)
           have e2 : ¬ op = 2 := of_decide_eq_false (by assumption)
           rw [if_neg e1, if_neg e1, if_neg e2]; rfl)
    clear hq
    simp only [nc] at hz
    simp only [nc'] at hz
    have hzl := lenZ (n := ar.length) hel hz
    clear hz
    rename Int => zl
    refine mintX hlp 6 2 5 rfl rfl ?_
    refine loopT (ι := Int × List (List PV) × Nat) mixed tt_ok hcp hcc hlp [2, 3, 23, 24] (fun p => [(25, .p (.int .i64 p.1))])
      (fun p => [.cells [.p (.int .i64 op), .p (.int .i64 n), .p (.int .i64 vk), .p (.int .i64 vn), .p (.str vs), .p (.sl es)], .cells [.p (.int .i64 0), .p (.int .i64 0), .p (.int .i64 0), .p (.int .i64 0), .p (.str ⟨⟨[]⟩⟩), .full []],
        .cells [.p (.int .i64 op), .p (.int .i64 n), .p (.int .i64 0), .p (.int .i64 0), .p (.str ⟨⟨[]⟩⟩), .tok 3 p.2.1], .spare p.2.2 6])
      (fun p => Rng ar.length zl p.1 ∧ (ar.take p.1.toNat).map (fun e => (mapE id e).cells) = p.2.1 ∧ p.2.1.length = p.2.2) (fun p => (zl - p.1).toNat)
      (0, [], 0) 4 (fun _ => rfl) ⟨Rng.start hzl (by omega), by simp, rfl⟩ ⟨rfl, trivial⟩ rfl ?_
    rintro R ⟨i, L, m⟩ ⟨rg, hl, hm⟩ hR
    replace rg : Rng ar.length zl i := rg
    replace hl : (ar.take i.toNat).map (fun e => (mapE id e).cells) = L := hl
    replace hm : L.length = m := hm
    have hll : L.length ≤ i.toNat := by rw [← hl]; simp; omega
    have hok : okEs 6 L = true := by
      rw [← hl, show (fun e => (mapE id e).cells) = Ex.cells ∘ mapE id from rfl, ← List.map_map]; exact okEs_cells _
    have hst : decide (i < zl) = true → L.length + 1 ≤ maxLen ∧ (L.length + 1) * 72 ≤ 140737488355328 := by
      intro h
      have hlt := rg.ltN h
      refine ⟨by simp only [maxLen]; omega, by omega⟩
    have hfin : decide (i < zl) = false → (ar.map (mapE id)).map Ex.cells = L := by
      intro h
      rw [← hl, rg.take_ rfl h, List.map_map]; rfl
    repeat' (first
      | (with_reducible refine Nm.mk ?_; intro z hz)
      | (with_reducible refine IfB.mk ?_ ?_ <;> (intro h; cases h))
      | (with_reducible refine Two.l ?_; refine Asm.mk ?_ ?_; focus (decide +kernel))
      | (with_reducible refine Two.r ?_)
      | (with_reducible refine Asm.mk ?_ ?_; focus kernel_rfl)
      | (with_reducible refine isCP hcp ?_; first | (refine exP hcp (hmc _ _ _ _ _ _ _ i.toNat (by assumption) (by assumption)) ?_; intro op2 n2 vk2 vn2 vs2 ar2 es2 hX hes2))
      | (with_reducible refine isCC hcc ?_; first | (refine exA hcc (hmc _ _ _ _ _ _ _ i.toNat (by assumption) (by assumption)) rfl ?_; intro op2 n2 vk2 vn2 vs2 ar2 es2 hX hes2))
      | (with_reducible refine Ix.ex hes rg.lo (rg.lt (by assumption)) ?_; intro op' m' vk' vn' vs' ar' es' hx hes')
      | (with_reducible refine Asm.mk2 ?_ ?_)
      | ((fail_if_success (with_reducible first | refine hQ _ ?_ | refine Side.mk ?_ | refine isCP hcp ?_ | refine isCC hcc ?_ | refine isLP hlp ?_ | refine Ix.mk ?_ | refine SIx.mk ?_ | refine SEx.mk ?_ | refine EIx.mk ?_ | refine RIx.mk ?_ | show False | refine hR ?_ _ ?_ ?_ ?_ ?_ ?_ | refine hR2 ?_ _ ?_ ?_ ?_ ?_ ?_)); cbv))
    · refine Side.mk ?_
      obtain ⟨u1, u2⟩ := hst (by assumption)
      exact ⟨hm.symm, rfl, hok, rfl, u1, u2⟩
    · have hlt : decide (i < zl) = true := by assumption
      rw [rg.wrap hlt] at hz
      rename_i L2 hL2 m2 hm2
      refine hR (i + 1, _, _) _ ⟨rg.next hlt, ?_, ?_⟩ (rg.less hlt) ⟨hz ▸ rfl, trivial⟩ ⟨rfl, rfl, rfl, rfl, trivial⟩ rfl
      · show (ar.take (i + 1).toNat).map (fun e => (mapE id e).cells) = L2
        rw [rg.take hx, List.map_append, hl, ← hL2]
        simp only [List.map_cons, List.map_nil, hX, cells_mk, hes2]
      · show L2.length = m2
        rw [← hL2, ← hm2, List.length_append]
    · refine hQ _ ?_
      rw [← hq', cells_mk, hfin (by assumption)]
  · have hq' : Ex.mk op 0 ⟨0, 0, ⟨⟨[]⟩⟩⟩ (ar.map (mapE id)) = q := by
      rw [← hq]
      clear hQ hcp hcc hlp hmc IH
      first
        | (have e : op = 1 := of_decide_eq_true (by assumption)
           subst e; rfl)
        | (have e : op = 2 := of_decide_eq_true (by assumption)
           subst e; subst_vars; rfl)
        | (have e1 : ¬ op = 1 := of_decide_eq_false (by assumption)
           have e2 : ¬ op = 2 := of_decide_eq_false (by assumption)
           rw [if_neg e1, if_neg e1, if_neg e2]; rfl)
    clear hq
    simp only [nc] at hz
    simp only [nc'] at hz
    have hzl := lenZ (n := ar.length) hel hz
    clear hz
    rename Int => zl
    refine mintX hlp 6 2 5 rfl rfl ?_
    refine loopT (ι := Int × List (List PV) × Nat) mixed tt_ok hcp hcc hlp [2, 3, 23, 24] (fun p => [(25, .p (.int .i64 p.1))])
      (fun p => [.cells [.p (.int .i64 op), .p (.int .i64 n), .p (.int .i64 vk), .p (.int .i64 vn), .p (.str vs), .p (.sl es)], .cells [.p (.int .i64 0), .p (.int .i64 0), .p (.int .i64 0), .p (.int .i64 0), .p (.str ⟨⟨[]⟩⟩), .full []],
        .cells [.p (.int .i64 op), .p (.int .i64 0), .p (.int .i64 0), .p (.int .i64 0), .p (.str ⟨⟨[]⟩⟩), .tok 3 p.2.1], .spare p.2.2 6])
      (fun p => Rng ar.length zl p.1 ∧ (ar.take p.1.toNat).map (fun e => (mapE id e).cells) = p.2.1 ∧ p.2.1.length = p.2.2) (fun p => (zl - p.1).toNat)
      (0, [], 0) 4 (fun _ => rfl) ⟨Rng.start hzl (by omega), by simp, rfl⟩ ⟨rfl, trivial⟩ rfl ?_
    rintro R ⟨i, L, m⟩ ⟨rg, hl, hm⟩ hR
    replace rg : Rng ar.length zl i := rg
    replace hl : (ar.take i.toNat).map (fun e => (mapE id e).cells) = L := hl
    replace hm : L.length = m := hm
    have hll : L.length ≤ i.toNat := by rw [← hl]; simp; omega
    have hok : okEs 6 L = true := by
      rw [← hl, show (fun e => (mapE id e).cells) = Ex.cells ∘ mapE id from rfl, ← List.map_map]; exact okEs_cells _
    have hst : decide (i < zl) = true → L.length + 1 ≤ maxLen ∧ (L.length + 1) * 72 ≤ 140737488355328 := by
      intro h
      have hlt := rg.ltN h
      refine ⟨by simp only [maxLen]; omega, by omega⟩
    have hfin : decide (i < zl) = false → (ar.map (mapE id)).map Ex.cells = L := by
      intro h
      rw [← hl, rg.take_ rfl h, List.map_map]; rfl
    repeat' (first
      | (with_reducible refine Nm.mk ?_; intro z hz)
      | (with_reducible refine IfB.mk ?_ ?_ <;> (intro h; cases h))
      | (with_reducible refine Two.l ?_; refine Asm.mk ?_ ?_; focus (decide +kernel))
      | (with_reducible refine Two.r ?_)
      | (with_reducible refine Asm.mk ?_ ?_; focus kernel_rfl)
      | (with_reducible refine isCP hcp ?_; first | (refine exP hcp (hmc _ _ _ _ _ _ _ i.toNat (by assumption) (by assumption)) ?_; intro op2 n2 vk2 vn2 vs2 ar2 es2 hX hes2))
      | (with_reducible refine isCC hcc ?_; first | (refine exA hcc (hmc _ _ _ _ _ _ _ i.toNat (by assumption) (by assumption)) rfl ?_; intro op2 n2 vk2 vn2 vs2 ar2 es2 hX hes2))
      | (with_reducible refine Ix.ex hes rg.lo (rg.lt (by assumption)) ?_; intro op' m' vk' vn' vs' ar' es' hx hes')
      | (with_reducible refine Asm.mk2 ?_ ?_)
      | ((fail_if_success (with_reducible first | refine hQ _ ?_ | refine Side.mk ?_ | refine isCP hcp ?_ | refine isCC hcc ?_ | refine isLP hlp ?_ | refine Ix.mk ?_ | refine SIx.mk ?_ | refine SEx.mk ?_ | refine EIx.mk ?_ | refine RIx.mk ?_ | show False | refine hR ?_ _ ?_ ?_ ?_ ?_ ?_ | refine hR2 ?_ _ ?_ ?_ ?_ ?_ ?_)); cbv))
    · refine Side.mk ?_
      obtain ⟨u1, u2⟩ := hst (by assumption)
      exact ⟨hm.symm, rfl, hok, rfl, u1, u2⟩
    · have hlt : decide (i < zl) = true := by assumption
      rw [rg.wrap hlt] at hz
      rename_i L2 hL2 m2 hm2
      refine hR (i + 1, _, _) _ ⟨rg.next hlt, ?_, ?_⟩ (rg.less hlt) ⟨hz ▸ rfl, trivial⟩ ⟨rfl, rfl, rfl, rfl, trivial⟩ rfl
      · show (ar.take (i + 1).toNat).map (fun e => (mapE id e).cells) = L2
        rw [rg.take hx, List.map_append, hl, ← hL2]
        simp only [List.map_cons, List.map_nil, hX, cells_mk, hes2]
      · show L2.length = m2
        rw [← hL2, ← hm2, List.length_append]
    · refine hQ _ ?_
      rw [← hq', cells_mk, hfin (by assumption)]
theorem neat_all : ∀ (m : Nat) (e : Ex), e.sz ≤ m → e.wide → PCall Tryz.prog 43 [.agg e.cells] fun r => r = [.agg (mapE id e).cells]
  | 0, .mk op n v ar, h, _ => by simp [Ex.sz] at h
  | m + 1, .mk op n v ar, h, hw => by
    rw [cells_mk]
    refine neat_c op n v ar _ rfl hw.1 fun x hx => neat_all m x ?_ (wide_mem hw.2 hx)
    have := sz_mem hx
    simp only [Ex.sz] at h; omega
theorem rneat_c (op n vk vn : Int) (vs : ByteArray) (ar : List Ex) (es : List (List PV)) (hes : ar.map Ex.cells = es) (hw : (Ex.mk op n ⟨vk, vn, vs⟩ ar).wide) :
    PCall Tryz.prog 43 [.agg [.int .i64 op, .int .i64 n, .int .i64 vk, .int .i64 vn, .str vs, .sl es]] fun r => r = [.agg (mapE id (.mk op n ⟨vk, vn, vs⟩ ar)).cells] := by
  have := neat_all _ _ (Nat.le_refl _) hw
  rw [cells_mk, hes] at this
  exact this

theorem rparts_c (op n vk vn : Int) (vs : ByteArray) (ar : List Ex) (es : List (List PV)) (hes : ar.map Ex.cells = es) (hw : (Ex.mk op n ⟨vk, vn, vs⟩ ar).wide)
    (IH : ∀ x, x ∈ ar → TCall Tryz.prog 16 [.agg x.cells] (fun l => l = (partsM x).map Ex.cells) 6) :
    TCall Tryz.prog 16 [.agg [.int .i64 op, .int .i64 n, .int .i64 vk, .int .i64 vn, .str vs, .sl es]] (fun l => l = (partsM (.mk op n ⟨vk, vn, vs⟩ ar)).map Ex.cells) 6 := by
  have hbt := rbuilt_c op n vk vn vs ar es hes hw
  have hcp' := rneat_c op n vk vn vs ar es hes hw
  obtain ⟨q, hq⟩ : ∃ q, (partsM (.mk op n ⟨vk, vn, vs⟩ ar)).map Ex.cells = q := ⟨_, rfl⟩
  rw [hq]
  rw [partsM] at hq
  have h2 : ∀ z, builtM (.mk op n ⟨vk, vn, vs⟩ ar) = z → (!z) = false → (!decide (op = 19)) = false → ∃ a b, es = [a.cells, b.cells] ∧ (partsM a).map Ex.cells ++ (partsM b).map Ex.cells = q ∧ (partsM a).length + (partsM b).length ≤ 400 ∧
      (TCall Tryz.prog 16 [.agg a.cells] (fun l => l = (partsM a).map Ex.cells) 6) ∧ TCall Tryz.prog 16 [.agg b.cells] (fun l => l = (partsM b).map Ex.cells) 6 := by
    intro z h1 h2 h3
    have hb : builtM (.mk op n ⟨vk, vn, vs⟩ ar) = true := by rw [h1]; simpa using h2
    have h19 : op = 19 := by simpa using h3
    subst h19
    have hs := built_sz hb
    obtain ⟨a, b, rfl, _, _⟩ := built_two hb
    refine ⟨a, b, hes.symm, ?_, ?_, IH a (by simp), IH b (by simp)⟩
    · rw [← hq, if_pos ⟨hb, rfl⟩]; simp [partsL]
    · have h1 := partsL_len [a, b]
      simp only [partsL, List.length_append, List.append_nil, List.length_nil, szL, Ex.sz] at h1 hs
      omega
  have h1 : ∀ z, builtM (.mk op n ⟨vk, vn, vs⟩ ar) = z → (!z) = true ∨ (!decide (op = 19)) = true → [(mapE id (.mk op n ⟨vk, vn, vs⟩ ar)).cells] = q := by
    intro z hz h
    rw [← hq, if_neg]
    · rfl
    · rintro ⟨x, y⟩
      rw [← hz, x] at h
      simp [y] at h
  clear hq
  refine TCall.x (nt := 25) (res := [.tmp 2]) mixed tt_ok [] Tryz.func16 rfl rfl rfl c16 (Nat.le_of_ble_eq_true rfl) ?_
  intro cp cc lp Q' hcp hcc hlp hQ
  repeat' (first
    | (with_reducible refine Nm.mk ?_; intro z hz)
    | (with_reducible refine IfB.mk ?_ ?_ <;> (intro h; cases h))
    | (with_reducible refine Two.l ?_; refine Asm.mk ?_ ?_; focus (decide +kernel))
    | (with_reducible refine Two.r ?_)
    | (with_reducible refine Asm.mk ?_ ?_; focus (first | kernel_rfl | decide))
    | (with_reducible refine isCP hcp ?_; first | (refine bP hcp (hbt) ?_; intro z hz) | (refine exP hcp (hcp') ?_; intro op2 n2 vk2 vn2 vs2 ar2 es2 hX hes2))
    | (with_reducible refine isCC hcc ?_; first | (refine bA hcc (hbt) rfl ?_; intro z hz) | (refine exA hcc (hcp') rfl ?_; intro op2 n2 vk2 vn2 vs2 ar2 es2 hX hes2))
    | (with_reducible refine Asm.mk2 ?_ ?_)
    | ((fail_if_success (with_reducible first | refine hQ _ ?_ | refine Side.mk ?_ | refine isCP hcp ?_ | refine isCC hcc ?_ | refine isLP hlp ?_ | refine Ix.mk ?_ | refine SIx.mk ?_ | refine SEx.mk ?_ | refine EIx.mk ?_ | refine RIx.mk ?_ | show False | refine hR ?_ _ ?_ ?_ ?_ ?_ ?_ | refine hR2 ?_ _ ?_ ?_ ?_ ?_ ?_)); cbv))
  · refine hQ _ ?_
    rw [← h1 _ (by assumption) (.inl (by assumption)), hX, cells_mk, hes2]
  · refine hQ _ ?_
    rw [← h1 _ (by assumption) (.inr (by assumption)), hX, cells_mk, hes2]
  · obtain ⟨a, b, he, hab, hlen, ta, tb⟩ := h2 _ (by assumption) (by assumption) (by assumption)
    obtain ⟨oa, na, ⟨ka, ma, sa⟩, ra⟩ := a
    obtain ⟨ob, nb, ⟨kb, mb, sb⟩, rb⟩ := b
    have hA0 : es[0]? = some (Ex.mk oa na ⟨ka, ma, sa⟩ ra).cells := by rw [he]; rfl
    have hA1 : es[1]? = some (Ex.mk ob nb ⟨kb, mb, sb⟩ rb).cells := by rw [he]; rfl
    clear h1 h2
    have oka := okEs_cells (partsM (Ex.mk oa na ⟨ka, ma, sa⟩ ra))
    have okb := okEs_cells (partsM (Ex.mk ob nb ⟨kb, mb, sb⟩ rb))
    obtain ⟨PA, hPA⟩ : ∃ x, (partsM (Ex.mk oa na ⟨ka, ma, sa⟩ ra)).map Ex.cells = x := ⟨_, rfl⟩
    obtain ⟨PB, hPB⟩ : ∃ x, (partsM (Ex.mk ob nb ⟨kb, mb, sb⟩ rb)).map Ex.cells = x := ⟨_, rfl⟩
    have hl1 : PA.length + PB.length ≤ 400 := by rw [← hPA, ← hPB]; simpa using hlen
    rw [hPA] at ta oka hab
    rw [hPB] at tb okb hab
    rw [cells_mk] at ta tb hA0 hA1
    obtain ⟨ea, hea⟩ : ∃ x, ra.map Ex.cells = x := ⟨_, rfl⟩
    obtain ⟨eb, heb⟩ : ∃ x, rb.map Ex.cells = x := ⟨_, rfl⟩
    rw [hea] at ta hA0
    rw [heb] at tb hA1
    have hside : ∀ z1 z2 : List (List PV), PA = z1 → PB = z2 → z1.length = z1.length ∧ 6 = 6 ∧ okEs 6 z1 = true ∧ okEs 6 z2 = true ∧ z1.length + z2.length ≤ maxLen ∧ (z1.length + z2.length) * 72 ≤ 140737488355328 := by
      rintro z1 z2 rfl rfl
      refine ⟨rfl, rfl, oka, okb, ?_, ?_⟩
      · simp only [maxLen]; omega
      · omega
    repeat' (first
      | (with_reducible refine Nm.mk ?_; intro z hz)
      | (with_reducible refine IfB.mk ?_ ?_ <;> (intro h; cases h))
      | (with_reducible refine Two.l ?_; refine Asm.mk ?_ ?_; focus (decide +kernel))
      | (with_reducible refine Two.r ?_)
      | (with_reducible refine Asm.mk ?_ ?_; focus kernel_rfl)
      | (with_reducible refine isCP hcp ?_; first | (refine tP hcp (ta) ?_; intro z hz) | (refine tP hcp (tb) ?_; intro z hz))
      | (with_reducible refine isCC hcc ?_; first | (refine tA hcc (ta) rfl ?_; intro z mz hz hmz) | (refine tA hcc (tb) rfl ?_; intro z mz hz hmz))
      | (with_reducible refine Ix.el 0 (by decide) rfl hA0 rfl (by decide) ?_)
      | (with_reducible refine Ix.el 1 (by decide) rfl hA1 rfl (by decide) ?_)
      | (with_reducible refine Asm.mk2 ?_ ?_)
      | ((fail_if_success (with_reducible first | refine hQ _ ?_ | refine Side.mk ?_ | refine isCP hcp ?_ | refine isCC hcc ?_ | refine isLP hlp ?_ | refine Ix.mk ?_ | refine SIx.mk ?_ | refine SEx.mk ?_ | refine EIx.mk ?_ | refine RIx.mk ?_ | show False | refine hR ?_ _ ?_ ?_ ?_ ?_ ?_ | refine hR2 ?_ _ ?_ ?_ ?_ ?_ ?_)); cbv))
    · refine Side.mk ?_
      obtain ⟨u1, u2, u3⟩ := hside _ _ (by assumption) (by assumption)
      exact ⟨Eq.symm (by assumption), u2, u3⟩
    · refine Side.mk ?_
      clear hQ
      subst_vars
      exact ⟨by simp, rfl⟩
    · refine hQ _ ?_
      clear hQ
      subst_vars
      rfl
theorem rparts_all : ∀ (m : Nat) (e : Ex), e.sz ≤ m → e.wide → TCall Tryz.prog 16 [.agg e.cells] (fun l => l = (partsM e).map Ex.cells) 6
  | 0, .mk op n v ar, h, _ => by simp [Ex.sz] at h
  | m + 1, .mk op n ⟨vk, vn, vs⟩ ar, h, hw => by
    rw [cells_mk]
    refine rparts_c op n vk vn vs ar _ rfl hw fun x hx => rparts_all m x ?_ (wide_mem hw.2 hx)
    have := sz_mem hx
    simp only [Ex.sz] at h; omega
theorem rpartsP_c (op n vk vn : Int) (vs : ByteArray) (ar : List Ex) (es : List (List PV)) (hes : ar.map Ex.cells = es) (hw : (Ex.mk op n ⟨vk, vn, vs⟩ ar).wide) :
    PCall Tryz.prog 16 [.agg [.int .i64 op, .int .i64 n, .int .i64 vk, .int .i64 vn, .str vs, .sl es]] fun r => r = [.sl ((partsM (.mk op n ⟨vk, vn, vs⟩ ar)).map Ex.cells)] := by
  have h := (rparts_all _ _ (Nat.le_refl _) hw).pure
  rw [cells_mk, hes] at h
  exact h.mono fun r hr => by obtain ⟨L, rfl, rfl⟩ := hr; rfl

end Go.Proofs.YtnhmnfokbinplaaGreat

namespace Go.Proofs.YtnhmnfokbinplaaGreat
open Go Go.RowKit
set_option maxRecDepth 100000
set_option linter.unusedSimpArgs false
set_option linter.unusedVariables false

def SameC (e : Ex) : Prop := PCall Tryz.prog 19 [.agg e.cells, .agg e.cells] fun r => r = [.bool true]
theorem same1_c (op m vk vn : Int) (vs : ByteArray) (ar : List Ex) (es : List (List PV)) (hes : ar.map Ex.cells = es) (hs : wideN ar.length) (IH : ∀ x, x ∈ ar → SameC x) :
    PCall Tryz.prog 19 [.agg [.int .i64 op, .int .i64 m, .int .i64 vk, .int .i64 vn, .str vs, .sl es], .agg [.int .i64 op, .int .i64 m, .int .i64 vk, .int .i64 vn, .str vs, .sl es]] fun r => r = [.bool true] := by
  have hel : es.length = ar.length := by rw [← hes]; simp
  unfold wideN at hs
  refine PCall.x (nt := 53) (res := [.tmp 4]) mixed tt_ok [] Tryz.func19 rfl rfl rfl c19 (Nat.le_of_ble_eq_true rfl) ?_
  intro cp cc lp Q' hcp hcc hlp hQ
  repeat' (first
    | (with_reducible refine Nm.mk ?_; intro z hz)
    | (with_reducible refine IfB.mk ?_ ?_ <;> (intro h; cases h))
    | (with_reducible refine Two.l ?_; refine Asm.mk ?_ ?_; focus (decide +kernel))
    | (with_reducible refine Two.r ?_)
    | (with_reducible refine Asm.mk ?_ ?_; focus (first | kernel_rfl | decide))
    | (with_reducible refine Asm.mk2 ?_ ?_)
    | ((fail_if_success (with_reducible first | refine hQ _ ?_ | refine Side.mk ?_ | refine isCP hcp ?_ | refine isCC hcc ?_ | refine isLP hlp ?_ | refine Ix.mk ?_ | refine SIx.mk ?_ | refine SEx.mk ?_ | refine EIx.mk ?_ | refine RIx.mk ?_ | show False | refine hR ?_ _ ?_ ?_ ?_ ?_ ?_ | refine hR2 ?_ _ ?_ ?_ ?_ ?_ ?_)); cbv))
  all_goals first
    | (exfalso; rw [eqB_val] at hz; simp at hz; done)
    | (exfalso; clear hQ hcp hcc hlp IH; simp_all; done)
    | skip
  simp only [nc] at hz
  simp only [nc'] at hz
  have hzl := lenZ (n := ar.length) hel hz
  clear hz
  generalize z = zl at *
  refine loopK (ι := Int) mixed tt_ok hcp hcc hlp [2, 3, 36] (fun i => [(37, .p (.int .i64 i))]) (fun i => Rng ar.length zl i) (fun i => (zl - i).toNat) 0 (fun _ => rfl) (Rng.start hzl (by omega)) ⟨rfl, trivial⟩ ?_
  intro R i rg hR
  have hget : ∀ (op' m' vk' vn' : Int) (vs' : ByteArray) (ar' : List Ex) (es' : List (List PV)), ar[i.toNat]? = some (.mk op' m' ⟨vk', vn', vs'⟩ ar') → ar'.map Ex.cells = es' → es[i.toNat]? = some [.int .i64 op', .int .i64 m', .int .i64 vk', .int .i64 vn', .str vs', .sl es'] := by
    intro op' m' vk' vn' vs' ar' es' hx he
    rw [← hes, List.getElem?_map, hx, Option.map_some, cells_mk, he]
  have hpc : ∀ (op' m' vk' vn' : Int) (vs' : ByteArray) (ar' : List Ex) (es' : List (List PV)), ar[i.toNat]? = some (.mk op' m' ⟨vk', vn', vs'⟩ ar') → ar'.map Ex.cells = es' → PCall Tryz.prog 19 [.agg [.int .i64 op', .int .i64 m', .int .i64 vk', .int .i64 vn', .str vs', .sl es'], .agg [.int .i64 op', .int .i64 m', .int .i64 vk', .int .i64 vn', .str vs', .sl es']] fun r => r = [.bool true] := by
    intro op' m' vk' vn' vs' ar' es' hx he
    have := IH _ (List.mem_of_getElem? hx)
    rw [SameC, cells_mk, he] at this
    exact this
  repeat' (first
    | (with_reducible refine Nm.mk ?_; intro z hz)
    | (with_reducible refine IfB.mk ?_ ?_ <;> (intro h; cases h))
    | (with_reducible refine Two.l ?_; refine Asm.mk ?_ ?_; focus (decide +kernel))
    | (with_reducible refine Two.r ?_)
    | (with_reducible refine Asm.mk ?_ ?_; focus kernel_rfl)
    | (with_reducible refine isCP hcp ?_; first | (refine xP hcp (hpc _ _ _ _ _ _ _ (by assumption) (by assumption)) ?_; skip))
    | (with_reducible refine isCC hcc ?_; first | (refine xA hcc (hpc _ _ _ _ _ _ _ (by assumption) (by assumption)) rfl ?_; skip))
    | (with_reducible refine Ix.giveK rg.lo (by assumption) rfl (by decide) ?_)
    | (with_reducible refine Ix.ex hes rg.lo (rg.lt (by assumption)) ?_; intro op' m' vk' vn' vs' ar' es' hx hes'; have hg2 := hget _ _ _ _ _ _ _ hx hes')
    | (with_reducible refine Asm.mk2 ?_ ?_)
    | ((fail_if_success (with_reducible first | refine hQ _ ?_ | refine Side.mk ?_ | refine isCP hcp ?_ | refine isCC hcc ?_ | refine isLP hlp ?_ | refine Ix.mk ?_ | refine SIx.mk ?_ | refine SEx.mk ?_ | refine EIx.mk ?_ | refine RIx.mk ?_ | show False | refine hR ?_ _ ?_ ?_ ?_ ?_ ?_ | refine hR2 ?_ _ ?_ ?_ ?_ ?_ ?_)); cbv))
  · exfalso; simp at hz
  · have hlt : decide (i < zl) = true := by assumption
    rw [rg.wrap hlt] at hz
    exact hR (i + 1) _ (rg.next hlt) (rg.less hlt) ⟨hz ▸ rfl, trivial⟩ ⟨rfl, rfl, rfl, trivial⟩ rfl
  · exact hQ _ rfl
theorem same_all : ∀ (k : Nat) (e : Ex), e.sz ≤ k → e.wide → SameC e
  | 0, .mk op m v ar, h, _ => by simp [Ex.sz] at h
  | k + 1, .mk op m ⟨vk, vn, vs⟩ ar, h, hw => by
    rw [SameC, cells_mk]
    refine same1_c op m vk vn vs ar _ rfl hw.1 fun x hx => same_all k x ?_ (wide_mem hw.2 hx)
    have := sz_mem hx
    simp only [Ex.sz] at h; omega

end Go.Proofs.YtnhmnfokbinplaaGreat

namespace Go.Proofs.YtnhmnfokbinplaaGreat
open Go Go.RowKit
set_option maxRecDepth 100000
set_option linter.unusedSimpArgs false
set_option linter.unusedVariables false

def UntC (cs : List Int) (C : List (List PV)) (e : Ex) : Prop := PCall Tryz.prog 49 [.agg e.cells, .sl C] fun r => r = [.bool (untrueM cs e)]
theorem runt1_c (cs : List Int) (C : List (List PV)) (hC : cs.map i64c = C) (hcl : cs.length ≤ 140737488355328) (op m vk vn : Int) (vs : ByteArray) (ar : List Ex) (es : List (List PV)) (hes : ar.map Ex.cells = es) (hw : (Ex.mk op m ⟨vk, vn, vs⟩ ar).wide) (h2 : op = 19 ∨ op = 20 → ar.length = 2) (IH : ∀ x, x ∈ ar → UntC cs C x) :
    PCall Tryz.prog 49 [.agg [.int .i64 op, .int .i64 m, .int .i64 vk, .int .i64 vn, .str vs, .sl es], .sl C] fun r => r = [.bool (untrueM cs (.mk op m ⟨vk, vn, vs⟩ ar))] := by
  have hn := rnull_all cs C hC hcl _ _ (Nat.le_refl _) hw
  rw [NullRC, cells_mk, hes] at hn
  have hcl0 := rclean_c vk vn vs
  have hlen : es.length = ar.length := by rw [← hes]; simp
  obtain ⟨q, hq⟩ : ∃ q, untrueM cs (.mk op m ⟨vk, vn, vs⟩ ar) = q := ⟨_, rfl⟩
  rw [hq]
  rw [untrueM, untrueL_eq] at hq
  obtain ⟨nb, hnb⟩ : ∃ b, nullM cs (.mk op m ⟨vk, vn, vs⟩ ar) = b := ⟨_, rfl⟩
  rw [hnb] at hn hq
  have hpc : ∀ (i : Nat) (op' m' vk' vn' : Int) (vs' : ByteArray) (ar' : List Ex) (es' : List (List PV)), ar[i]? = some (.mk op' m' ⟨vk', vn', vs'⟩ ar') → ar'.map Ex.cells = es' →
      PCall Tryz.prog 49 [.agg [.int .i64 op', .int .i64 m', .int .i64 vk', .int .i64 vn', .str vs', .sl es'], .sl C] fun r => r = [.bool (untrueM cs (.mk op' m' ⟨vk', vn', vs'⟩ ar'))] := by
    intro i op' m' vk' vn' vs' ar' es' hx he
    have := IH _ (List.mem_of_getElem? hx)
    rw [UntC, cells_mk, he] at this
    exact this
  have l19 : decide (op = 19) = true → (0 : Int) < ar.length ∧ (1 : Int) < ar.length := fun h => by have := h2 (.inl (of_decide_eq_true h)); omega
  have l20 : decide (op = 20) = true → (0 : Int) < ar.length ∧ (1 : Int) < ar.length := fun h => by have := h2 (.inr (of_decide_eq_true h)); omega
  have htr : ∀ (k n : Int) (s : ByteArray), PCall Tryz.prog 88 [.agg [.int .i64 k, .int .i64 n, .str s]] fun r => r = [.bool (trueV ⟨k, n, s⟩)] := fun k n s => rtrue_l k n s
  clear IH hC hcl h2
  refine PCall.x (nt := 54) (res := [.tmp 4]) mixed tt_ok [] Tryz.func49 rfl rfl rfl c49 (Nat.le_of_ble_eq_true rfl) ?_
  intro cp cc lp Q' hcp hcc hlp hQ
  repeat' (first
    | (with_reducible refine Nm.mk ?_; intro z hz)
    | (with_reducible refine IfB.mk ?_ ?_ <;> (intro h; cases h))
    | (with_reducible refine Two.l ?_; refine Asm.mk ?_ ?_; focus (decide +kernel))
    | (with_reducible refine Two.r ?_)
    | (with_reducible refine Asm.mk ?_ ?_; focus kernel_rfl)
    | (with_reducible refine isCP hcp ?_; first | (refine bP hcp (hn) ?_; intro z hz) | (refine vP hcp (hcl0) ?_; intro v hv) | (refine bP hcp (htr _ _ _) ?_; intro z hz) | (refine bP hcp (hpc _ _ _ _ _ _ _ _ (by assumption) (by assumption)) ?_; intro z hz))
    | (with_reducible refine isCC hcc ?_; first | (refine bA hcc (hn) rfl ?_; intro z hz) | (refine vA hcc (hcl0) rfl ?_; intro v hv) | (refine bA hcc (htr _ _ _) rfl ?_; intro z hz) | (refine bA hcc (hpc _ _ _ _ _ _ _ _ (by assumption) (by assumption)) rfl ?_; intro z hz))
    | (with_reducible refine Ix.ex hes (by decide) (l19 (by assumption)).1 ?_; intro op0 m0 vk0 vn0 vs0 ar0 es0 hx0 hes0)
    | (with_reducible refine Ix.ex hes (by decide) (l20 (by assumption)).1 ?_; intro op0 m0 vk0 vn0 vs0 ar0 es0 hx0 hes0)
    | (with_reducible refine Ix.ex hes (by decide) (l19 (by assumption)).2 ?_; intro op1 m1 vk1 vn1 vs1 ar1 es1 hx1 hes1)
    | (with_reducible refine Ix.ex hes (by decide) (l20 (by assumption)).2 ?_; intro op1 m1 vk1 vn1 vs1 ar1 es1 hx1 hes1)
    | (with_reducible refine Asm.mk2 ?_ ?_)
    | ((fail_if_success (with_reducible first | refine hQ _ ?_ | refine Side.mk ?_ | refine isCP hcp ?_ | refine isCC hcc ?_ | refine isLP hlp ?_ | refine Ix.mk ?_ | refine SIx.mk ?_ | refine SEx.mk ?_ | refine EIx.mk ?_ | refine RIx.mk ?_ | show False | refine hR ?_ _ ?_ ?_ ?_ ?_ ?_ | refine hR2 ?_ _ ?_ ?_ ?_ ?_ ?_)); cbv))
  all_goals
    (refine hQ _ ?_
     rw [← hq]
     clear hQ hcp hcc hlp hq hn hcl0 hpc htr l19 l20 hw
     have tc := true_clean ⟨vk, vn, vs⟩
     (try simp only [decide_eq_true_eq, decide_eq_false_iff_not] at *)
     first
       | (subst_vars; simp_all; done)
       | (have e0 : (ar.map (untrueM cs))[0]? = some (untrueM cs (.mk op0 m0 ⟨vk0, vn0, vs0⟩ ar0)) := by rw [List.getElem?_map, show ar[0]? = _ from hx0]; rfl
          first
            | (simp_all; done)
            | (have e1 : (ar.map (untrueM cs))[1]? = some (untrueM cs (.mk op1 m1 ⟨vk1, vn1, vs1⟩ ar1)) := by rw [List.getElem?_map, show ar[1]? = _ from hx1]; rfl
               simp_all; done))
       | skip)
theorem runt_all (cs : List Int) (C : List (List PV)) (hC : cs.map i64c = C) (hcl : cs.length ≤ 140737488355328) : ∀ (k : Nat) (e : Ex), e.sz ≤ k → e.wide → goodE e = true → UntC cs C e
  | 0, .mk op m v ar, h, _, _ => by simp [Ex.sz] at h
  | k + 1, .mk op m ⟨vk, vn, vs⟩ ar, h, hw, hg => by
    rw [UntC, cells_mk]
    have hg2 := hg
    simp only [goodE, Bool.and_eq_true, Bool.not_eq_true'] at hg2
    have ha := badE_arity hg2.1
    refine runt1_c cs C hC hcl op m vk vn vs ar _ rfl hw (fun h => ?_) fun x hx => runt_all cs C hC hcl k x ?_ (wide_mem hw.2 hx) (good_mem hg2.2 hx)
    · rcases h with rfl | rfl <;> (simp [arityE] at ha; omega)
    · have := sz_mem hx
      simp only [Ex.sz] at h; omega
theorem rstrict_c (cs : List Int) (C : List (List PV)) (hC : cs.map i64c = C) (hcl : cs.length ≤ 140737488355328) (op m vk vn : Int) (vs : ByteArray) (ar : List Ex) (es : List (List PV)) (hes : ar.map Ex.cells = es) (hw : (Ex.mk op m ⟨vk, vn, vs⟩ ar).wide) :
    PCall Tryz.prog 18 [.agg [.int .i64 op, .int .i64 m, .int .i64 vk, .int .i64 vn, .str vs, .sl es], .sl C] fun r => r = [.bool (strictM cs (.mk op m ⟨vk, vn, vs⟩ ar))] := by
  have hb := rbuilt_c op m vk vn vs ar es hes hw
  have hu : builtM (.mk op m ⟨vk, vn, vs⟩ ar) = true → PCall Tryz.prog 49 [.agg [.int .i64 op, .int .i64 m, .int .i64 vk, .int .i64 vn, .str vs, .sl es], .sl C] fun r => r = [.bool (untrueM cs (.mk op m ⟨vk, vn, vs⟩ ar))] := by
    intro h
    have := runt_all cs C hC hcl _ _ (Nat.le_refl _) hw (good_of_built h)
    rw [UntC, cells_mk, hes] at this
    exact this
  rw [strictM]
  generalize builtM (.mk op m ⟨vk, vn, vs⟩ ar) = bt at hb hu
  generalize untrueM cs (.mk op m ⟨vk, vn, vs⟩ ar) = ut at hu
  clear hw hC hes
  refine PCall.x (nt := 12) (res := [.tmp 4]) mixed tt_ok [] Tryz.func18 rfl rfl rfl c18 (Nat.le_of_ble_eq_true rfl) ?_
  intro cp cc lp Q' hcp hcc hlp hQ
  repeat' (first
    | (with_reducible refine Nm.mk ?_; intro z hz)
    | (with_reducible refine IfB.mk ?_ ?_ <;> (intro h; cases h))
    | (with_reducible refine Two.l ?_; refine Asm.mk ?_ ?_; focus (decide +kernel))
    | (with_reducible refine Two.r ?_)
    | (with_reducible refine Asm.mk ?_ ?_; focus (first | kernel_rfl | decide))
    | (with_reducible refine isCP hcp ?_; first | (refine bP hcp (hb) ?_; intro z hz) | (refine bP hcp (hu (by assumption)) ?_; intro z hz))
    | (with_reducible refine isCC hcc ?_; first | (refine bA hcc (hb) rfl ?_; intro z hz) | (refine bA hcc (hu (by assumption)) rfl ?_; intro z hz))
    | (with_reducible refine Asm.mk2 ?_ ?_)
    | ((fail_if_success (with_reducible first | refine hQ _ ?_ | refine Side.mk ?_ | refine isCP hcp ?_ | refine isCC hcc ?_ | refine isLP hlp ?_ | refine Ix.mk ?_ | refine SIx.mk ?_ | refine SEx.mk ?_ | refine EIx.mk ?_ | refine RIx.mk ?_ | show False | refine hR ?_ _ ?_ ?_ ?_ ?_ ?_ | refine hR2 ?_ _ ?_ ?_ ?_ ?_ ?_)); cbv))
  all_goals (refine hQ _ ?_; clear hQ hcp hcc hlp hu hb; simp_all)
theorem reval_c (op m vk vn : Int) (vs : ByteArray) (ar : List Ex) (es : List (List PV)) (hes : ar.map Ex.cells = es) (hw : (Ex.mk op m ⟨vk, vn, vs⟩ ar).wide) (ho : (Ex.mk op m ⟨vk, vn, vs⟩ ar).okc) (row : List Val) (R : List (List PV)) (hR : row.map Val.cells = R) (hr : rowOk row) :
    PCall Tryz.prog 10 [.agg [.int .i64 op, .int .i64 m, .int .i64 vk, .int .i64 vn, .str vs, .sl es], .sl R] fun r => r = [(evalM (colOf row) (.mk op m ⟨vk, vn, vs⟩ ar)).enc] := by
  have hb := rbuilt_c op m vk vn vs ar es hes hw
  have hu : builtM (.mk op m ⟨vk, vn, vs⟩ ar) = true → PCall Tryz.prog 36 [.agg [.int .i64 op, .int .i64 m, .int .i64 vk, .int .i64 vn, .str vs, .sl es], .sl R] fun r => r = [(evalE (colOf row) (.mk op m ⟨vk, vn, vs⟩ ar)).enc] := by
    intro h
    have := reval_all row R hR hr _ _ (Nat.le_refl _) (good_of_built h) ho
    rw [EvalC, cells_mk, hes] at this
    exact this
  have hnone := none_l
  rw [evalM]
  generalize builtM (.mk op m ⟨vk, vn, vs⟩ ar) = bt at hb hu
  generalize evalE (colOf row) (.mk op m ⟨vk, vn, vs⟩ ar) = ev at hu
  have hbn : ∀ {z : Bool}, bt = z → (!z) = false → bt = true := by rintro z rfl h; simpa using h
  have hbf : ∀ {z : Bool}, bt = z → (!z) = true → bt = false := by rintro z rfl h; simpa using h
  clear hw ho hR hr hes
  refine PCall.x (nt := 12) (res := [.cell 4 23]) mixed tt_ok [] Tryz.func10 rfl rfl rfl c10 (Nat.le_of_ble_eq_true rfl) ?_
  intro cp cc lp Q' hcp hcc hlp hQ
  repeat' (first
    | (with_reducible refine Nm.mk ?_; intro z hz)
    | (with_reducible refine IfB.mk ?_ ?_ <;> (intro h; cases h))
    | (with_reducible refine Two.l ?_; refine Asm.mk ?_ ?_; focus (decide +kernel))
    | (with_reducible refine Two.r ?_)
    | (with_reducible refine Asm.mk ?_ ?_; focus (first | kernel_rfl | decide))
    | (with_reducible refine isCP hcp ?_; first | (refine bP hcp (hb) ?_; intro z hz) | (refine vP hcp (hnone) ?_; intro v hv) | (refine vP hcp (hu (hbn (by assumption) (by assumption))) ?_; intro v hv))
    | (with_reducible refine isCC hcc ?_; first | (refine bA hcc (hb) rfl ?_; intro z hz) | (refine vA hcc (hnone) rfl ?_; intro v hv) | (refine vA hcc (hu (hbn (by assumption) (by assumption))) rfl ?_; intro v hv))
    | (with_reducible refine Asm.mk2 ?_ ?_)
    | ((fail_if_success (with_reducible first | refine hQ _ ?_ | refine Side.mk ?_ | refine isCP hcp ?_ | refine isCC hcc ?_ | refine isLP hlp ?_ | refine Ix.mk ?_ | refine SIx.mk ?_ | refine SEx.mk ?_ | refine EIx.mk ?_ | refine RIx.mk ?_ | show False | refine hR ?_ _ ?_ ?_ ?_ ?_ ?_ | refine hR2 ?_ _ ?_ ?_ ?_ ?_ ?_)); cbv))
  · refine hQ _ ?_
    have h1 : bt = false := hbf (by assumption) (by assumption)
    rw [if_neg (by rw [h1]; decide)]
    rename_i hv
    rw [hv]; rfl
  · refine hQ _ ?_
    rw [if_pos (hbn (by assumption) (by assumption))]
    rename_i hv
    rw [hv]; rfl
end Go.Proofs.YtnhmnfokbinplaaGreat

namespace Go.Proofs.YtnhmnfokbinplaaGreat
open Go Go.RowKit
set_option maxRecDepth 100000
set_option linter.unusedSimpArgs false
set_option linter.unusedVariables false

theorem known_c (op n vk vn : Int) (vs : ByteArray) (ar : List Ex) (es : List (List PV)) (hes : ar.map Ex.cells = es) : PCall Tryz.prog 51 [.agg [.int .i64 op, .int .i64 n, .int .i64 vk, .int .i64 vn, .str vs, .sl es]] fun r => r = [.bool (knownE (.mk op n ⟨vk, vn, vs⟩ ar))] := by
  refine PCall.x (nt := 6) (res := [.tmp 2]) mixed tt_ok [] Tryz.func51 rfl rfl rfl c51 (Nat.le_of_ble_eq_true rfl) ?_
  intro cp cc lp Q' hcp hcc hlp hQ
  repeat' (first
    | (with_reducible refine Nm.mk ?_; intro z hz)
    | (with_reducible refine IfB.mk ?_ ?_ <;> (intro h; cases h))
    | (with_reducible refine Two.l ?_; refine Asm.mk ?_ ?_; focus (decide +kernel))
    | (with_reducible refine Two.r ?_)
    | (with_reducible refine Asm.mk ?_ ?_; focus (first | kernel_rfl | decide))
    | (with_reducible refine Asm.mk2 ?_ ?_)
    | ((fail_if_success (with_reducible first | refine hQ _ ?_ | refine Side.mk ?_ | refine isCP hcp ?_ | refine isCC hcc ?_ | refine isLP hlp ?_ | refine Ix.mk ?_ | refine SIx.mk ?_ | refine SEx.mk ?_ | refine EIx.mk ?_ | refine RIx.mk ?_ | show False | refine hR ?_ _ ?_ ?_ ?_ ?_ ?_ | refine hR2 ?_ _ ?_ ?_ ?_ ?_ ?_)); cbv))
  all_goals (refine hQ _ ?_; clear hQ hcp hcc hlp; subst_vars; rfl)
theorem notKnown_c (op n vk vn : Int) (vs : ByteArray) (ar : List Ex) (es : List (List PV)) (hes : ar.map Ex.cells = es) : PCall Tryz.prog 55 [.agg [.int .i64 op, .int .i64 n, .int .i64 vk, .int .i64 vn, .str vs, .sl es], .ip [.fn 51 []]] fun r => r = [.bool (!knownE (.mk op n ⟨vk, vn, vs⟩ ar))] := by
  have hk := known_c op n vk vn vs ar es hes
  refine PCall.x (nt := 8) (res := [.tmp 3]) mixed tt_ok [] Tryz.func55 rfl rfl rfl c55 (Nat.le_of_ble_eq_true rfl) ?_
  intro cp cc lp Q' hcp hcc hlp hQ
  repeat' (first
    | (with_reducible refine Nm.mk ?_; intro z hz)
    | (with_reducible refine IfB.mk ?_ ?_ <;> (intro h; cases h))
    | (with_reducible refine Two.l ?_; refine Asm.mk ?_ ?_; focus (decide +kernel))
    | (with_reducible refine Two.r ?_)
    | (with_reducible refine Asm.mk ?_ ?_; focus (first | kernel_rfl | decide))
    | (with_reducible refine isCP hcp ?_; first | (refine bP hcp (hk) ?_; intro z hz))
    | (with_reducible refine isCC hcc ?_; first | (refine bA hcc (hk) rfl ?_; intro z hz))
    | (with_reducible refine Asm.mk2 ?_ ?_)
    | ((fail_if_success (with_reducible first | refine hQ _ ?_ | refine Side.mk ?_ | refine isCP hcp ?_ | refine isCC hcc ?_ | refine isLP hlp ?_ | refine Ix.mk ?_ | refine SIx.mk ?_ | refine SEx.mk ?_ | refine EIx.mk ?_ | refine RIx.mk ?_ | show False | refine hR ?_ _ ?_ ?_ ?_ ?_ ?_ | refine hR2 ?_ _ ?_ ?_ ?_ ?_ ?_)); cbv))
  all_goals (refine hQ _ ?_; clear hQ hcp hcc hlp hk; subst_vars; rfl)
theorem isE_c (yes : Bool) (op n vk vn : Int) (vs : ByteArray) (ar : List Ex) (es : List (List PV)) (hes : ar.map Ex.cells = es) : PCall Tryz.prog 53 [.agg [.int .i64 op, .int .i64 n, .int .i64 vk, .int .i64 vn, .str vs, .sl es], .ip [.fn 51 []], .ip [.bool yes]] fun r => r = [.bool (isE yes (.mk op n ⟨vk, vn, vs⟩ ar))] := by
  have hk := known_c op n vk vn vs ar es hes
  refine PCall.x (nt := 22) (res := [.tmp 4]) mixed tt_ok [] Tryz.func53 rfl rfl rfl c53 (Nat.le_of_ble_eq_true rfl) ?_
  intro cp cc lp Q' hcp hcc hlp hQ
  repeat' (first
    | (with_reducible refine Nm.mk ?_; intro z hz)
    | (with_reducible refine IfB.mk ?_ ?_ <;> (intro h; cases h))
    | (with_reducible refine Two.l ?_; refine Asm.mk ?_ ?_; focus (decide +kernel))
    | (with_reducible refine Two.r ?_)
    | (with_reducible refine Asm.mk ?_ ?_; focus (first | kernel_rfl | decide))
    | (with_reducible refine isCP hcp ?_; first | (refine bP hcp (hk) ?_; intro z hz))
    | (with_reducible refine isCC hcc ?_; first | (refine bA hcc (hk) rfl ?_; intro z hz))
    | (with_reducible refine Asm.mk2 ?_ ?_)
    | ((fail_if_success (with_reducible first | refine hQ _ ?_ | refine Side.mk ?_ | refine isCP hcp ?_ | refine isCC hcc ?_ | refine isLP hlp ?_ | refine Ix.mk ?_ | refine SIx.mk ?_ | refine SEx.mk ?_ | refine EIx.mk ?_ | refine RIx.mk ?_ | show False | refine hR ?_ _ ?_ ?_ ?_ ?_ ?_ | refine hR2 ?_ _ ?_ ?_ ?_ ?_ ?_)); cbv))
  all_goals (refine hQ _ ?_; clear hQ hcp hcc hlp hk; simp only [knownE] at *; simp_all [isE])
theorem allOf {k : Nat} {caps : List PV} {p : Ex → Bool} (h : ∀ (op n vk vn : Int) (vs : ByteArray) (ar : List Ex) (es : List (List PV)), ar.map Ex.cells = es → PCall Tryz.prog k (.agg [.int .i64 op, .int .i64 n, .int .i64 vk, .int .i64 vn, .str vs, .sl es] :: caps) fun r => r = [.bool (p (.mk op n ⟨vk, vn, vs⟩ ar))]) (e : Ex) :
    PCall Tryz.prog k (.agg e.cells :: caps) fun r => r = [.bool (p e)] := by
  obtain ⟨op, n, ⟨vk, vn, vs⟩, ar⟩ := e
  rw [cells_mk]
  exact h op n vk vn vs ar _ rfl
theorem is_c (yes : Bool) (op n vk vn : Int) (vs : ByteArray) (ar : List Ex) (es : List (List PV)) (hes : ar.map Ex.cells = es) (hs : wideN ar.length) :
    PCall Tryz.prog 52 [.bool yes, .ip [.int .i64 op, .int .i64 n, .int .i64 vk, .int .i64 vn, .str vs, .sl es], .ip [.fn 51 []]] fun r => r = [.bool (ar.any (isE yes))] := by
  have hc := containsFunc_c 53 [.ip [.fn 51 []], .ip [.bool yes]] (isE yes) ar es hes hs fun e _ => allOf (isE_c yes) e
  refine PCall.x (nt := 9) (res := [.tmp 4]) mixed tt_ok [(46, [0])] Tryz.func52 rfl rfl rfl c52 (Nat.le_of_ble_eq_true rfl) ?_
  intro cp cc lp Q' hcp hcc hlp hQ
  repeat' (first
    | (with_reducible refine Nm.mk ?_; intro z hz)
    | (with_reducible refine IfB.mk ?_ ?_ <;> (intro h; cases h))
    | (with_reducible refine Two.l ?_; refine Asm.mk ?_ ?_; focus (decide +kernel))
    | (with_reducible refine Two.r ?_)
    | (with_reducible refine Asm.mk ?_ ?_; focus (first | kernel_rfl | decide))
    | (with_reducible refine isCP hcp ?_; first | (refine bP hcp (hc) ?_; intro z hz))
    | (with_reducible refine isCC hcc ?_; first | (refine bA hcc (hc) rfl ?_; intro z hz))
    | (with_reducible refine Asm.mk2 ?_ ?_)
    | ((fail_if_success (with_reducible first | refine hQ _ ?_ | refine Side.mk ?_ | refine isCP hcp ?_ | refine isCC hcc ?_ | refine isLP hlp ?_ | refine Ix.mk ?_ | refine SIx.mk ?_ | refine SEx.mk ?_ | refine EIx.mk ?_ | refine RIx.mk ?_ | show False | refine hR ?_ _ ?_ ?_ ?_ ?_ ?_ | refine hR2 ?_ _ ?_ ?_ ?_ ?_ ?_)); cbv))
  all_goals (refine hQ _ ?_; clear hQ hcp hcc hlp hc; subst_vars; rfl)
theorem constant_c (n : Int) : PCall Tryz.prog 54 [.int .i64 n] fun r => r = [.agg [.int .i64 2, .int .i64 0, .int .i64 1, .int .i64 n, .str ⟨⟨[]⟩⟩, .sl []]] := by
  refine PCall.x (nt := 6) (res := [.cell 2 26]) mixed tt_ok [] Tryz.func54 rfl rfl rfl c54 (Nat.le_of_ble_eq_true rfl) ?_
  intro cp cc lp Q' hcp hcc hlp hQ
  repeat' (first
    | (with_reducible refine Nm.mk ?_; intro z hz)
    | (with_reducible refine IfB.mk ?_ ?_ <;> (intro h; cases h))
    | (with_reducible refine Two.l ?_; refine Asm.mk ?_ ?_; focus (decide +kernel))
    | (with_reducible refine Two.r ?_)
    | (with_reducible refine Asm.mk ?_ ?_; focus (first | kernel_rfl | decide))
    | (with_reducible refine Asm.mk2 ?_ ?_)
    | ((fail_if_success (with_reducible first | refine hQ _ ?_ | refine Side.mk ?_ | refine isCP hcp ?_ | refine isCC hcc ?_ | refine isLP hlp ?_ | refine Ix.mk ?_ | refine SIx.mk ?_ | refine SEx.mk ?_ | refine EIx.mk ?_ | refine RIx.mk ?_ | show False | refine hR ?_ _ ?_ ?_ ?_ ?_ ?_ | refine hR2 ?_ _ ?_ ?_ ?_ ?_ ?_)); cbv))
  all_goals (refine hQ _ ?_; rfl)
theorem zeroCol_c (n : Int) : PCall Tryz.prog 56 [.int .i64 n] fun r => r = [Val.zero.enc] := by
  refine PCall.x (nt := 4) (res := [.cell 2 23]) mixed tt_ok [] Tryz.func56 rfl rfl rfl c56 (Nat.le_of_ble_eq_true rfl) ?_
  intro cp cc lp Q' hcp hcc hlp hQ
  repeat' (first
    | (with_reducible refine Nm.mk ?_; intro z hz)
    | (with_reducible refine IfB.mk ?_ ?_ <;> (intro h; cases h))
    | (with_reducible refine Two.l ?_; refine Asm.mk ?_ ?_; focus (decide +kernel))
    | (with_reducible refine Two.r ?_)
    | (with_reducible refine Asm.mk ?_ ?_; focus (first | kernel_rfl | decide))
    | (with_reducible refine Asm.mk2 ?_ ?_)
    | ((fail_if_success (with_reducible first | refine hQ _ ?_ | refine Side.mk ?_ | refine isCP hcp ?_ | refine isCC hcc ?_ | refine isLP hlp ?_ | refine Ix.mk ?_ | refine SIx.mk ?_ | refine SEx.mk ?_ | refine EIx.mk ?_ | refine RIx.mk ?_ | show False | refine hR ?_ _ ?_ ?_ ?_ ?_ ?_ | refine hR2 ?_ _ ?_ ?_ ?_ ?_ ?_)); cbv))
  all_goals (refine hQ _ ?_; rfl)

theorem const_cells (v : Val) : (constE v).cells = [.int .i64 2, .int .i64 0, .int .i64 v.k, .int .i64 v.n, .str v.s, .sl []] := by rw [constE, cells_mk]; rfl
theorem knownW (E : Ex) (hg : goodE E = true) (ho : E.okc) : PCall Tryz.prog (wk E).1 (.fn 56 [] :: (wk E).2) fun r => r = [(evalE (fun _ => Val.zero) E).enc] :=
  (work_all (kc := 56) (cc0 := []) (col := fun _ => Val.zero) (fun n _ => ⟨okV_zero, zeroCol_c n⟩) _ _ (Nat.le_refl _) hg ho).2

theorem Ix.ex_at {es : List (List PV)} {ar : List Ex} {i : Int} {K : List PV → Prop} (hl : ar.map Ex.cells = es) (h0 : 0 ≤ i) {op n vk vn : Int} {vs : ByteArray} {ar' : List Ex} {es' : List (List PV)} (hx : ar[i.toNat]? = some (.mk op n ⟨vk, vn, vs⟩ ar')) (he : ar'.map Ex.cells = es')
    (g : K [.int .i64 op, .int .i64 n, .int .i64 vk, .int .i64 vn, .str vs, .sl es']) : Ix 6 es i K := by
  refine Ix.ex hl h0 ?_ fun op2 n2 vk2 vn2 vs2 ar2 es2 hx2 he2 => ?_
  · have := (List.getElem?_eq_some_iff.1 hx).1; omega
  · rw [hx] at hx2
    simp only [Option.some.injEq, Ex.mk.injEq, Val.mk.injEq] at hx2
    obtain ⟨rfl, rfl, ⟨rfl, rfl, rfl⟩, rfl⟩ := hx2
    rw [← he2, he]; exact g
theorem wk_id (E : Ex) : (wk E).1 = 63 ∨ (wk E).1 = 65 ∨ (wk E).1 = 69 ∨ (wk E).1 = 70 ∨ (wk E).1 = 78 := by
  obtain ⟨op, n, v, ar⟩ := E
  rw [wk]
  unfold wkOp
  (repeat' split) <;> simp [one2, two2, by2]

set_option maxHeartbeats 4000000 in
theorem fold1_c (op n vk vn : Int) (vs : ByteArray) (ar : List Ex) (es : List (List PV)) (hC : FoldC (.mk op n ⟨vk, vn, vs⟩ ar)) (hes : ar.map Ex.cells = es) :
    PCall Tryz.prog 50 [.agg [.int .i64 op, .int .i64 n, .int .i64 vk, .int .i64 vn, .str vs, .sl es]] fun r => r = [.agg (foldN (.mk op n ⟨vk, vn, vs⟩ ar)).cells] := by
  have hel : es.length = ar.length := by rw [← hes]; simp
  obtain ⟨hg, ho⟩ := hC
  have hw := good_wide _ hg
  have hcont := containsFunc_c 55 [.ip [.fn 51 []]] (fun e => !knownE e) ar es hes hw.1 fun e _ => allOf (p := fun e => !knownE e) notKnown_c e
  have his0 := is_c false op n vk vn vs ar es hes hw.1
  have his1 := is_c true op n vk vn vs ar es hes hw.1
  have hcm := compile_all _ _ (Nat.le_refl _) hw
  have hrun := knownW _ hg ho
  rw [cells_mk, hes] at hcm
  have hall : (ar.any fun e => !knownE e) = !ar.all knownE := by rw [List.any_eq_not_all_not]; simp
  rw [hall] at hcont
  simp only [goodE, Bool.and_eq_true, Bool.not_eq_true'] at hg
  have ha := badE_arity hg.1
  have hl3 : op = 21 → 3 = ar.length := by rintro rfl; simp [arityE] at ha; omega
  obtain ⟨q, hq⟩ : ∃ q, foldN (.mk op n ⟨vk, vn, vs⟩ ar) = q := ⟨_, rfl⟩
  rw [hq]
  rw [foldN] at hq
  obtain ⟨E, hE⟩ : ∃ E, Ex.mk op n ⟨vk, vn, vs⟩ ar = E := ⟨_, rfl⟩
  have hqc : q.cells = q.cells := rfl
  rw [hE] at hcm hrun hq
  have hrun' : ∀ k c, wk E = (k, c) → PCall Tryz.prog k (.fn 56 [] :: c) fun r => r = [(evalE (fun _ => Val.zero) E).enc] := by
    intro k c hk; rw [hk] at hrun; exact hrun
  have i0 : op = 21 → (0 : Int) < ar.length := fun h => by have := hl3 h; omega
  have i1 : op = 21 → (1 : Int) < ar.length := fun h => by have := hl3 h; omega
  have i2 : op = 21 → (2 : Int) < ar.length := fun h => by have := hl3 h; omega
  have o21 : decide (op = 21) = true → op = 21 := of_decide_eq_true
  have ht : ∀ (x : Val), PCall Tryz.prog 48 [.agg [.int .i64 x.k, .int .i64 x.n, .str x.s]] fun r => r = [.bool (trueV x)] := fun x => true_c _ _ _
  have hne : ∀ k c, wk E = (k, c) → ¬ 46 = k ∧ ¬ 52 = k := by
    intro k c hk
    have := wk_id E
    rw [hk] at this
    simp only at this
    omega
  clear hrun
  have e0 : ∀ z : Int, (es.length : Int) = z → decide (z = 0) = true → ar.length = 0 := by intro z h g; simp only [decide_eq_true_eq] at g; omega
  have e0' : ∀ z : Int, (es.length : Int) = z → decide (z = 0) = false → ¬ ar.length = 0 := by intro z h g; simp only [decide_eq_false_iff_not] at g; omega
  have ea : ∀ z : Bool, (!ar.all knownE) = z → (!z) = true → ar.all knownE = true := by rintro z rfl h; simpa using h
  have ea' : ∀ z : Bool, (!ar.all knownE) = z → (!z) = false → ¬ ar.all knownE = true := by rintro z rfl h; simpa using h
  refine PCall.x (nt := 69) (res := [.cell 2 26]) mixed tt_ok [(46, [2]), (52, [0, 2])] Tryz.func50 rfl rfl rfl c50 (Nat.le_of_ble_eq_true rfl) ?_
  intro cp cc lp Q' hcp hcc hlp hQ
  repeat' (first
    | (with_reducible refine Nm.mk ?_; intro z hz)
    | (with_reducible refine IfB.mk ?_ ?_ <;> (intro h; cases h))
    | (with_reducible refine Two.l ?_; refine Asm.mk ?_ ?_; focus (decide +kernel))
    | (with_reducible refine Two.r ?_)
    | (with_reducible refine Asm.mk ?_ ?_; focus kernel_rfl)
    | (with_reducible refine isCP hcp ?_; first | (refine bP hcp (hcont) ?_; intro z hz) | (refine fnP hcp (hcm) ?_; intro k c hX) | (refine bP hcp (his0) ?_; intro z hz) | (refine bP hcp (his1) ?_; intro z hz) | (refine xP hcp (constant_c _) ?_; skip) | (refine bP hcp (known_c _ _ _ _ _ _ _ (by assumption)) ?_; intro z hz) | (refine bP hcp (ht ⟨_, _, _⟩) ?_; intro z hz))
    | (with_reducible refine isCC hcc ?_; first | (refine bA hcc (hcont) rfl ?_; intro z hz) | (refine fnA hcc (hcm) rfl ?_; intro k c hX) | (refine bA hcc (his0) rfl ?_; intro z hz) | (refine bA hcc (his1) rfl ?_; intro z hz) | (refine xA hcc (constant_c _) rfl ?_; skip) | (refine bA hcc (known_c _ _ _ _ _ _ _ (by assumption)) rfl ?_; intro z hz) | (refine bA hcc (ht ⟨_, _, _⟩) rfl ?_; intro z hz))
    | (with_reducible refine isCC hcc ?_; refine vA hcc (hrun' _ _ hX) (hb1 rfl) ?_; intro v hv)
    | (with_reducible refine Ix.ex_at (i := 0) hes (by decide) hx0 hes0 ?_)
    | (with_reducible refine Ix.ex (i := 0) hes (by decide) (i0 (o21 (by assumption))) ?_; intro op0 m0 vk0 vn0 vs0 ar0 es0 hx0 hes0)
    | (with_reducible refine Ix.ex (i := 1) hes (by decide) (i1 (o21 (by assumption))) ?_; intro op1 m1 vk1 vn1 vs1 ar1 es1 hx1 hes1)
    | (with_reducible refine Ix.ex (i := 2) hes (by decide) (i2 (o21 (by assumption))) ?_; intro op2 m2 vk2 vn2 vs2 ar2 es2 hx2 hes2)
    | (have g1 := (hne _ _ hX).1; have g2 := (hne _ _ hX).2; simp only [fzOf, if_neg g1, if_neg g2]; clear g1 g2)
    | (with_reducible refine Asm.mk2 ?_ ?_)
    | ((fail_if_success (with_reducible first | refine hQ _ ?_ | refine Side.mk ?_ | refine isCP hcp ?_ | refine isCC hcc ?_ | refine isLP hlp ?_ | refine Ix.mk ?_ | refine SIx.mk ?_ | refine SEx.mk ?_ | refine EIx.mk ?_ | refine RIx.mk ?_ | show False | refine hR ?_ _ ?_ ?_ ?_ ?_ ?_ | refine hR2 ?_ _ ?_ ?_ ?_ ?_ ?_)); cbv))
  all_goals (refine hQ _ ?_; rw [← hq]; clear hQ hcp hcc hlp hcont his0 his1 hcm hrun' hne ht hq hqc)
  all_goals first
    | rw [if_pos (e0 _ (by assumption) (by assumption)), ← hE, cells_mk, hes]
    | (rw [if_neg (e0' _ (by assumption) (by assumption)), if_pos (ea _ (by assumption) (by assumption)), const_cells]
       subst_vars
       rfl)
    | (rw [if_neg (e0' _ (by assumption) (by assumption)), if_neg (ea' _ (by assumption) (by assumption))]
       first
         | (have a : op = 19 := of_decide_eq_true (by assumption)
            have b : ar.any (isE false) = true := by assumption
            rw [if_pos ⟨a, b⟩, const_cells]
            rfl)
         | (have n19 : ¬ (op = 19 ∧ ar.any (isE false) = true) := by
              rintro ⟨a, b⟩
              first
                | (have g : decide (op = 19) = false := by assumption
                   exact of_decide_eq_false g a)
                | (have g : ar.any (isE false) = false := by assumption
                   rw [b] at g; cases g)
            rw [if_neg n19]
            clear n19
            first
              | (have a : op = 20 := of_decide_eq_true (by assumption)
                 have b : ar.any (isE true) = true := by assumption
                 rw [if_pos ⟨a, b⟩, const_cells]
                 rfl)
              | (have n20 : ¬ (op = 20 ∧ ar.any (isE true) = true) := by
                   rintro ⟨a, b⟩
                   first
                     | (have g : decide (op = 20) = false := by assumption
                        exact of_decide_eq_false g a)
                     | (have g : ar.any (isE true) = false := by assumption
                        rw [b] at g; cases g)
                 rw [if_neg n20]
                 clear n20
                 first
                   | (have a : op = 21 := of_decide_eq_true (by assumption)
                      have x0 : ar[0]? = some (.mk op0 m0 ⟨vk0, vn0, vs0⟩ ar0) := hx0
                      have b : knownE (.mk op0 m0 ⟨vk0, vn0, vs0⟩ ar0) = true := by assumption
                      rw [x0, Option.getD_some, if_pos ⟨a, b⟩]
                      first
                        | (have c : trueV (Ex.mk op0 m0 ⟨vk0, vn0, vs0⟩ ar0).val = true := by assumption
                           have x1 : ar[1]? = some (.mk op1 m1 ⟨vk1, vn1, vs1⟩ ar1) := hx1
                           rw [if_pos c, x1, Option.getD_some, cells_mk, hes1])
                        | (have c : trueV (Ex.mk op0 m0 ⟨vk0, vn0, vs0⟩ ar0).val = false := by assumption
                           have x2 : ar[2]? = some (.mk op2 m2 ⟨vk2, vn2, vs2⟩ ar2) := hx2
                           rw [if_neg (by rw [c]; decide), x2, Option.getD_some, cells_mk, hes2]))
                   | (have n21 : ¬ (op = 21 ∧ knownE ((ar[0]?).getD zeroE) = true) := by
                        rintro ⟨a, b⟩
                        first
                          | (have g : decide (op = 21) = false := by assumption
                             exact of_decide_eq_false g a)
                          | (have x0 : ar[0]? = some (.mk op0 m0 ⟨vk0, vn0, vs0⟩ ar0) := hx0
                             have g : knownE (.mk op0 m0 ⟨vk0, vn0, vs0⟩ ar0) = false := by assumption
                             rw [x0, Option.getD_some, g] at b; cases b)
                      rw [if_neg n21, ← hE, cells_mk, hes]))))
end Go.Proofs.YtnhmnfokbinplaaGreat

namespace Go.Proofs.YtnhmnfokbinplaaGreat
open Go Go.RowKit
set_option maxRecDepth 100000
set_option linter.unusedSimpArgs false
set_option linter.unusedVariables false

theorem efold_c (op n vk vn : Int) (vs : ByteArray) (ar : List Ex) (es : List (List PV)) (hes : ar.map Ex.cells = es) (hw : (Ex.mk op n ⟨vk, vn, vs⟩ ar).wide) (ho : (Ex.mk op n ⟨vk, vn, vs⟩ ar).okc) :
    PCall Tryz.prog 20 [.agg [.int .i64 op, .int .i64 n, .int .i64 vk, .int .i64 vn, .str vs, .sl es]] fun r => r = [.agg (foldM (.mk op n ⟨vk, vn, vs⟩ ar)).cells] := by
  have hbt := ebuilt_c op n vk vn vs ar es hes
  have hcp' := copy_c op n vk vn vs ar es hes hw
  have hf : builtM (.mk op n ⟨vk, vn, vs⟩ ar) = true → PCall Tryz.prog 41 [.agg [.int .i64 op, .int .i64 n, .int .i64 vk, .int .i64 vn, .str vs, .sl es], .fn 50 []] fun r => r = [.agg (mapE foldN (.mk op n ⟨vk, vn, vs⟩ ar)).cells] := by
    intro hb
    have hg := good_of_built hb
    have := mapped_all foldN 50 [] FoldC (fun op n vk vn vs ar es hC h => fold1_c op n vk vn vs ar es hC h) _ _ (Nat.le_refl _) hw (fold_cond _ hg ho)
    rw [cells_mk, hes] at this
    exact this
  obtain ⟨E, hE⟩ : ∃ E, Ex.mk op n ⟨vk, vn, vs⟩ ar = E := ⟨_, rfl⟩
  rw [hE] at hbt hcp' hf ⊢
  have hf' : ∀ z, builtM E = z → (!z) = false → PCall Tryz.prog 41 [.agg [.int .i64 op, .int .i64 n, .int .i64 vk, .int .i64 vn, .str vs, .sl es], .fn 50 []] fun r => r = [.agg (mapE foldN E).cells] := by
    rintro z rfl h; exact hf (by simpa using h)
  have e1 : ∀ z, builtM E = z → (!z) = true → foldM E = mapE id E := by
    rintro z rfl h; unfold foldM; rw [if_neg (by simp at h; rw [h]; decide)]
  have e2 : ∀ z, builtM E = z → (!z) = false → foldM E = mapE foldN E := by
    rintro z rfl h; unfold foldM; rw [if_pos (by simpa using h)]
  clear hf
  refine PCall.x (nt := 10) (res := [.cell 2 26]) mixed tt_ok [] Tryz.func20 rfl rfl rfl c20 (Nat.le_of_ble_eq_true rfl) ?_
  intro cp cc lp Q' hcp hcc hlp hQ
  repeat' (first
    | (with_reducible refine Nm.mk ?_; intro z hz)
    | (with_reducible refine IfB.mk ?_ ?_ <;> (intro h; cases h))
    | (with_reducible refine Two.l ?_; refine Asm.mk ?_ ?_; focus (decide +kernel))
    | (with_reducible refine Two.r ?_)
    | (with_reducible refine Asm.mk ?_ ?_; focus (first | kernel_rfl | decide))
    | (with_reducible refine isCP hcp ?_; first | (refine bP hcp (hbt) ?_; intro z hz) | (refine exP hcp (hcp') ?_; intro op2 n2 vk2 vn2 vs2 ar2 es2 hX hes2) | (refine exP hcp (hf' _ (by assumption) (by assumption)) ?_; intro op2 n2 vk2 vn2 vs2 ar2 es2 hX hes2))
    | (with_reducible refine isCC hcc ?_; first | (refine bA hcc (hbt) rfl ?_; intro z hz) | (refine exA hcc (hcp') rfl ?_; intro op2 n2 vk2 vn2 vs2 ar2 es2 hX hes2) | (refine exA hcc (hf' _ (by assumption) (by assumption)) rfl ?_; intro op2 n2 vk2 vn2 vs2 ar2 es2 hX hes2))
    | (with_reducible refine Asm.mk2 ?_ ?_)
    | ((fail_if_success (with_reducible first | refine hQ _ ?_ | refine Side.mk ?_ | refine isCP hcp ?_ | refine isCC hcc ?_ | refine isLP hlp ?_ | refine Ix.mk ?_ | refine SIx.mk ?_ | refine SEx.mk ?_ | refine EIx.mk ?_ | refine RIx.mk ?_ | show False | refine hR ?_ _ ?_ ?_ ?_ ?_ ?_ | refine hR2 ?_ _ ?_ ?_ ?_ ?_ ?_)); cbv))
  · refine hQ _ ?_
    rw [e1 _ (by assumption) (by assumption), hX, cells_mk, hes2]
  · refine hQ _ ?_
    rw [e2 _ (by assumption) (by assumption), hX, cells_mk, hes2]

end Go.Proofs.YtnhmnfokbinplaaGreat

namespace Go.Proofs.YtnhmnfokbinplaaGreat
open Go Go.RowKit
set_option maxRecDepth 100000
set_option linter.unusedSimpArgs false
set_option linter.unusedVariables false

theorem constR_c (k n : Int) (s : ByteArray) : PCall Tryz.prog 95 [.agg [.int .i64 k, .int .i64 n, .str s]] fun r => r = [.agg [.int .i64 2, .int .i64 0, .int .i64 k, .int .i64 n, .str s, .sl []]] := by
  refine PCall.x (nt := 5) (res := [.cell 2 26]) mixed tt_ok [] Tryz.func95 rfl rfl rfl c95 (Nat.le_of_ble_eq_true rfl) ?_
  intro cp cc lp Q' hcp hcc hlp hQ
  repeat' (first
    | (with_reducible refine Nm.mk ?_; intro z hz)
    | (with_reducible refine IfB.mk ?_ ?_ <;> (intro h; cases h))
    | (with_reducible refine Two.l ?_; refine Asm.mk ?_ ?_; focus (decide +kernel))
    | (with_reducible refine Two.r ?_)
    | (with_reducible refine Asm.mk ?_ ?_; focus (first | kernel_rfl | decide))
    | (with_reducible refine Asm.mk2 ?_ ?_)
    | ((fail_if_success (with_reducible first | refine hQ _ ?_ | refine Side.mk ?_ | refine isCP hcp ?_ | refine isCC hcc ?_ | refine isLP hlp ?_ | refine Ix.mk ?_ | refine SIx.mk ?_ | refine SEx.mk ?_ | refine EIx.mk ?_ | refine RIx.mk ?_ | show False | refine hR ?_ _ ?_ ?_ ?_ ?_ ?_ | refine hR2 ?_ _ ?_ ?_ ?_ ?_ ?_)); cbv))
  all_goals (refine hQ _ ?_; clear hQ hcp hcc hlp; subst_vars; simp_all [])
theorem isR_c (l : List Ex) (LC : List (List PV)) (hLC : l.map Ex.cells = LC) (i v : Int) (h0 : 0 ≤ i) (hi : i < l.length) (a b c d : Int) (s : ByteArray) :
    PCall Tryz.prog 94 [.int .i64 i, .int .i64 v, .ip [.int .i64 a, .int .i64 b, .int .i64 c, .int .i64 d, .str s, .sl LC]] fun r => r = [.bool (isE (!decide (v = 0)) ((l[i.toNat]?).getD zeroE))] := by
  refine PCall.x (nt := 30) (res := [.tmp 5]) mixed tt_ok [] Tryz.func94 rfl rfl rfl c94 (Nat.le_of_ble_eq_true rfl) ?_
  intro cp cc lp Q' hcp hcc hlp hQ
  repeat' (first
    | (with_reducible refine Nm.mk ?_; intro z hz)
    | (with_reducible refine IfB.mk ?_ ?_ <;> (intro h; cases h))
    | (with_reducible refine Two.l ?_; refine Asm.mk ?_ ?_; focus (decide +kernel))
    | (with_reducible refine Two.r ?_)
    | (with_reducible refine Asm.mk ?_ ?_; focus kernel_rfl)
    | (with_reducible refine Ix.ex hLC h0 hi ?_; intro op' m' vk' vn' vs' ar' es' hx hes')
    | (with_reducible refine Asm.mk2 ?_ ?_)
    | ((fail_if_success (with_reducible first | refine hQ _ ?_ | refine Side.mk ?_ | refine isCP hcp ?_ | refine isCC hcc ?_ | refine isLP hlp ?_ | refine Ix.mk ?_ | refine SIx.mk ?_ | refine SEx.mk ?_ | refine EIx.mk ?_ | refine RIx.mk ?_ | show False | refine hR ?_ _ ?_ ?_ ?_ ?_ ?_ | refine hR2 ?_ _ ?_ ?_ ?_ ?_ ?_)); cbv))
  all_goals
    (refine hQ _ ?_
     rw [hx, Option.getD_some, isE]
     clear hQ hcp hcc hlp
     simp_all
     try subst_vars
     try (cases decide (vn' = 0) <;> cases decide (v = 0) <;> rfl)
     try (rename_i b1 b2 _ _ _ _; subst_vars; cases decide (vn' = 0) <;> cases decide (v = 0) <;> rfl))
theorem set_last {α : Type} (L : List α) (z c : α) (n : Nat) (h : L.length = n) : ((L.take n) ++ [z]).set n c = L ++ [c] := by
  subst h; simp
set_option maxHeartbeats 8000000 in
theorem rfold1_c (op m vk vn : Int) (vs : ByteArray) (ar FL : List Ex) (es FC : List (List PV)) (hes : (ar.map (mapE id)).map Ex.cells = es) (hFL : ar.map (mapE foldN) = FL) (hFC : FL.map Ex.cells = FC) (hs : wideN ar.length) (h2 : op = 19 ∨ op = 20 → ar.length = 2) (h3 : op = 21 → ar.length = 3)
    (hev : PCall Tryz.prog 36 [.agg [.int .i64 op, .int .i64 m, .int .i64 vk, .int .i64 vn, .str vs, .sl FC], .sl []] fun r => r = [(evalE (fun _ => Val.zero) (.mk op m ⟨vk, vn, vs⟩ FL)).enc])
    (q : Ex) (hq : foldN (.mk op m ⟨vk, vn, vs⟩ FL) = q)
    (IH : ∀ x, x ∈ ar → PCall Tryz.prog 57 [.agg (mapE id x).cells] fun r => r = [.agg (mapE foldN x).cells]) :
    PCall Tryz.prog 57 [.agg [.int .i64 op, .int .i64 m, .int .i64 vk, .int .i64 vn, .str vs, .sl es]] fun r => r = [.agg q.cells] := by
  have hel : es.length = ar.length := by rw [← hes]; simp
  have hFl : FL.length = ar.length := by rw [← hFL]; simp
  have hFcl : FC.length = ar.length := by rw [← hFC]; simp [hFl]
  unfold wideN at hs
  have hpc : ∀ (i : Nat) (op' m' vk' vn' : Int) (vs' : ByteArray) (ar' : List Ex) (es' : List (List PV)), (ar.map (mapE id))[i]? = some (.mk op' m' ⟨vk', vn', vs'⟩ ar') → ar'.map Ex.cells = es' →
      PCall Tryz.prog 57 [.agg [.int .i64 op', .int .i64 m', .int .i64 vk', .int .i64 vn', .str vs', .sl es']] fun r => r = [.agg ((FL[i]?).getD zeroE).cells] := by
    intro i op' m' vk' vn' vs' ar' es' hx he
    rw [List.getElem?_map, Option.map_eq_some_iff] at hx
    obtain ⟨x, hx, hxe⟩ := hx
    have := IH _ (List.mem_of_getElem? hx)
    rw [hxe, cells_mk, he] at this
    rw [← hFL, List.getElem?_map, hx]
    exact this
  have hlenM : (ar.map (mapE id)).length = ar.length := by simp
  refine PCall.x (nt := 111) (res := [.cell 2 26]) mixed tt_ok [] Tryz.func57 rfl rfl rfl c57 (Nat.le_of_ble_eq_true rfl) ?_
  intro cp cc lp Q' hcp hcc hlp hQ
  repeat' (first
    | (with_reducible refine Nm.mk ?_; intro z hz)
    | (with_reducible refine IfB.mk ?_ ?_ <;> (intro h; cases h))
    | (with_reducible refine Two.l ?_; refine Asm.mk ?_ ?_; focus (decide +kernel))
    | (with_reducible refine Two.r ?_)
    | (with_reducible refine Asm.mk ?_ ?_; focus (first | kernel_rfl | decide))
    | (with_reducible refine Asm.mk2 ?_ ?_)
    | ((fail_if_success (with_reducible first | refine hQ _ ?_ | refine Side.mk ?_ | refine isCP hcp ?_ | refine isCC hcc ?_ | refine isLP hlp ?_ | refine Ix.mk ?_ | refine SIx.mk ?_ | refine SEx.mk ?_ | refine EIx.mk ?_ | refine RIx.mk ?_ | show False | refine hR ?_ _ ?_ ?_ ?_ ?_ ?_ | refine hR2 ?_ _ ?_ ?_ ?_ ?_ ?_)); cbv))
  simp only [nc] at hz
  simp only [nc'] at hz
  have hzl := lenZ (n := ar.length) hel hz
  clear hz
  generalize z = zl at *
  refine mintVX hlp 6 2 5 rfl rfl ?_
  refine loopFz hlp 2 5 ?_
  refine loopT (ι := Int × Nat × List (List PV) × Nat × Bool) mixed tt_ok hcp hcc hlp [1, 2, 3, 18, 19] (fun p => [(4, .p (.bool p.2.2.2.2)), (20, .p (.int .i64 p.1))])
    (fun p => [.cells [.p (.int .i64 op), .p (.int .i64 m), .p (.int .i64 vk), .p (.int .i64 vn), .p (.str vs), .p (.sl es)], .cells [.p (.int .i64 0), .p (.int .i64 0), .p (.int .i64 0), .p (.int .i64 0), .p (.str ⟨⟨[]⟩⟩), .full []],
      .cells [.p (.int .i64 op), .p (.int .i64 m), .p (.int .i64 vk), .p (.int .i64 vn), .p (.str vs), .vec 3 p.2.1 6 0 p.2.2.2.1], .vec p.2.1 p.2.2.1 6])
    (fun p => Rng ar.length zl p.1 ∧ (FL.take p.1.toNat).map Ex.cells = p.2.2.1 ∧ p.2.2.1.length = p.2.2.2.1 ∧ (FL.take p.1.toNat).all knownE = p.2.2.2.2) (fun p => (zl - p.1).toNat)
    (0, 0, [], 0, true) 4 (fun _ => rfl) ⟨Rng.start hzl (by omega), rfl, rfl, rfl⟩ ⟨rfl, rfl, trivial⟩ rfl ?_
  rintro R ⟨i, g, L, n1, kn⟩ ⟨rg, hl, hm, hkn⟩ hR
  replace rg : Rng ar.length zl i := rg
  replace hl : (FL.take i.toNat).map Ex.cells = L := hl
  replace hm : L.length = n1 := hm
  replace hkn : (FL.take i.toNat).all knownE = kn := hkn
  have hLi : L.length = i.toNat := by
    have := rg.lo; have := rg.hi; have := rg.len
    rw [← hl, List.length_map, List.length_take]; omega
  have hok : okEs 6 (L.take n1) = true := by rw [← hm, List.take_length, ← hl]; exact okEs_cells _
  have sd1 : decide (i < zl) = true → n1 + 1 ≤ maxLen ∧ (n1 + 1) * 72 ≤ 140737488355328 := by
    intro h
    have := rg.ltN h
    rw [maxLen_eq]; omega
  have sd2 : ∀ (z1 : Int) (z : Nat), (n1 : Int) = z1 → n1 + 1 = z → 0 ≤ z1 ∧ z1 < (z : Int) := by intro z1 z h1 h2; omega
  have hend : decide (i < zl) = false → L = FC := fun h => by
    rw [rg.take_ hFl h] at hl; rw [← hl, hFC]
  have hof : ∀ (z1 : Int) (z : Nat), (0 + z1.toNat) * 6 = z → (n1 : Int) = z1 → n1 * 6 = z := by intro z1 z h h2; omega
  have hnl : ∀ LZ : List (List PV), L.take n1 ++ [[PV.int .i64 0, PV.int .i64 0, PV.int .i64 0, PV.int .i64 0, PV.str ⟨⟨[]⟩⟩, PV.sl []]] = LZ → n1 < LZ.length := by
    intro LZ h; rw [← h, List.length_append, List.length_take]; simp; omega
  have hzz : decide (i < zl) = false → ∀ z : List (List PV), (L.drop 0).take n1 = z → FL.map Ex.cells = z := by
    intro h z hz; rw [hFC, ← hend h, ← hz, List.drop_zero, ← hm, List.take_length]
  obtain ⟨⟨ek, en, ess⟩, hE⟩ : ∃ v, evalE (fun _ => Val.zero) (.mk op m ⟨vk, vn, vs⟩ FL) = v := ⟨_, rfl⟩
  have hevz : decide (i < zl) = false → ∀ z : List (List PV), (L.drop 0).take n1 = z → PCall Tryz.prog 36 [.agg [.int .i64 op, .int .i64 m, .int .i64 vk, .int .i64 vn, .str vs, .sl z], .sl []] fun r => r = [.agg [.int .i64 ek, .int .i64 en, .str ess]] := by
    intro h z hz
    rw [hE] at hev
    rw [← hzz h z hz, hFC]; exact hev
  have hl19 : decide (op = 19) = true → (0 : Int) < FL.length ∧ (1 : Int) < FL.length := fun h => by have := h2 (.inl (of_decide_eq_true h)); omega
  have hl20 : decide (op = 20) = true → (0 : Int) < FL.length ∧ (1 : Int) < FL.length := fun h => by have := h2 (.inr (of_decide_eq_true h)); omega
  have hl21 : decide (op = 21) = true → (0 : Int) < FL.length ∧ (1 : Int) < FL.length ∧ (2 : Int) < FL.length := fun h => by have := h3 (of_decide_eq_true h); omega
  have his : ∀ z : List (List PV), FL.map Ex.cells = z → ∀ j v : Int, 0 ≤ j → j < FL.length → PCall Tryz.prog 94 [.int .i64 j, .int .i64 v, .ip [.int .i64 op, .int .i64 m, .int .i64 vk, .int .i64 vn, .str vs, .sl z]] fun r => r = [.bool (isE (!decide (v = 0)) ((FL[j.toNat]?).getD zeroE))] := fun z hz j v h0 hj => isR_c FL z hz j v h0 hj op m vk vn vs
  have hnum0 : PCall Tryz.prog 82 [.int .i64 0] fun r => r = [.agg [.int .i64 1, .int .i64 0, .str ⟨⟨[]⟩⟩]] := num_r 0
  have hnum1 : PCall Tryz.prog 82 [.int .i64 1] fun r => r = [.agg [.int .i64 1, .int .i64 1, .str ⟨⟨[]⟩⟩]] := num_r 1
  have hall : decide (i < zl) = false → FL.all knownE = kn := fun h => by
    rw [← hkn, rg.take_ hFl h]
  have hany : op = 19 ∨ op = 20 → ∀ p : Ex → Bool, FL.any p = (p ((FL[0]?).getD zeroE) || p ((FL[1]?).getD zeroE)) := by
    intro h p
    have hl2 : FL.length = 2 := by have := h2 h; omega
    match FL, hl2 with
    | [a, b], _ => simp
  have e0 : ∀ z : Int, (es.length : Int) = z → decide (z = 0) = true → FL.length = 0 := by intro z h g; simp only [decide_eq_true_eq] at g; omega
  have e0' : ∀ z : Int, (es.length : Int) = z → decide (z = 0) = false → ¬ FL.length = 0 := by intro z h g; simp only [decide_eq_false_iff_not] at g; omega
  have hstep : decide (i < zl) = true → ∀ X, (FL[i.toNat]?).getD zeroE = X → FL.take (i + 1).toNat = FL.take i.toNat ++ [X] := by
    intro h X hX
    have hlt : i.toNat < FL.length := by have := rg.ltN h; omega
    rw [List.getElem?_eq_getElem hlt, Option.getD_some] at hX
    exact rg.take (by rw [List.getElem?_eq_getElem hlt, hX])
  clear hev IH
  repeat' (first
    | (with_reducible refine Nm.mk ?_; intro z hz)
    | (with_reducible refine IfB.mk ?_ ?_ <;> (intro h; cases h))
    | (with_reducible refine Two.l ?_; refine Asm.mk ?_ ?_; focus (decide +kernel))
    | (with_reducible refine Two.r ?_)
    | (with_reducible refine Asm.mk ?_ ?_; focus kernel_rfl)
    | (with_reducible refine isCP hcp ?_; first | (refine exP hcp (hpc _ _ _ _ _ _ _ _ (by assumption) (by assumption)) ?_; intro op2 m2 vk2 vn2 vs2 ar2 es2 hX hes2) | (refine xP hcp (hevz (by assumption) _ (by assumption)) ?_; skip) | (refine xP hcp (constR_c _ _ _) ?_; skip) | (refine xP hcp (hnum0) ?_; skip) | (refine xP hcp (hnum1) ?_; skip) | (refine bP hcp (his _ (hzz (by assumption) _ (by assumption)) 0 0 (by decide) (hl19 (by assumption)).1) ?_; intro z hz) | (refine bP hcp (his _ (hzz (by assumption) _ (by assumption)) 1 0 (by decide) (hl19 (by assumption)).2) ?_; intro z hz) | (refine bP hcp (his _ (hzz (by assumption) _ (by assumption)) 0 1 (by decide) (hl20 (by assumption)).1) ?_; intro z hz) | (refine bP hcp (his _ (hzz (by assumption) _ (by assumption)) 1 1 (by decide) (hl20 (by assumption)).2) ?_; intro z hz) | (refine bP hcp (rtrue_l _ _ _) ?_; intro z hz))
    | (with_reducible refine isCC hcc ?_; first | (refine exA hcc (hpc _ _ _ _ _ _ _ _ (by assumption) (by assumption)) rfl ?_; intro op2 m2 vk2 vn2 vs2 ar2 es2 hX hes2) | (refine xA hcc (hevz (by assumption) _ (by assumption)) rfl ?_; skip) | (refine xA hcc (constR_c _ _ _) rfl ?_; skip) | (refine xA hcc (hnum0) rfl ?_; skip) | (refine xA hcc (hnum1) rfl ?_; skip) | (refine bA hcc (his _ (hzz (by assumption) _ (by assumption)) 0 0 (by decide) (hl19 (by assumption)).1) rfl ?_; intro z hz) | (refine bR hcc (his _ (hzz (by assumption) _ (by assumption)) 0 0 (by decide) (hl19 (by assumption)).1) rfl ?_; intro z hz) | (refine bA hcc (his _ (hzz (by assumption) _ (by assumption)) 1 0 (by decide) (hl19 (by assumption)).2) rfl ?_; intro z hz) | (refine bR hcc (his _ (hzz (by assumption) _ (by assumption)) 1 0 (by decide) (hl19 (by assumption)).2) rfl ?_; intro z hz) | (refine bA hcc (his _ (hzz (by assumption) _ (by assumption)) 0 1 (by decide) (hl20 (by assumption)).1) rfl ?_; intro z hz) | (refine bR hcc (his _ (hzz (by assumption) _ (by assumption)) 0 1 (by decide) (hl20 (by assumption)).1) rfl ?_; intro z hz) | (refine bA hcc (his _ (hzz (by assumption) _ (by assumption)) 1 1 (by decide) (hl20 (by assumption)).2) rfl ?_; intro z hz) | (refine bR hcc (his _ (hzz (by assumption) _ (by assumption)) 1 1 (by decide) (hl20 (by assumption)).2) rfl ?_; intro z hz) | (refine bA hcc (rtrue_l _ _ _) rfl ?_; intro z hz) | (refine bR hcc (rtrue_l _ _ _) rfl ?_; intro z hz))
    | (with_reducible refine Ix.ex hes rg.lo (by rw [hlenM]; exact rg.lt (by assumption)) ?_; intro op' m' vk' vn' vs' ar' es' hx hes')
    | (with_reducible refine SEx.at_ n1 (hof _ _ (by assumption) (by assumption)) (hnl _ (by assumption)) rfl ?_; intro L3 hL3)
    | (with_reducible refine Ix.ex_at (i := 0) (hzz (by assumption) _ (by assumption)) (by decide) hx0 hes0 ?_)
    | (with_reducible refine Ix.ex (hzz (by assumption) _ (by assumption)) (by decide) (hl21 (by assumption)).1 ?_; intro op0 m0 vk0 vn0 vs0 ar0 es0 hx0 hes0)
    | (with_reducible refine Ix.ex (hzz (by assumption) _ (by assumption)) (by decide) (hl21 (by assumption)).2.1 ?_; intro op1 m1 vk1 vn1 vs1 ar1 es1 hx1 hes1)
    | (with_reducible refine Ix.ex (hzz (by assumption) _ (by assumption)) (by decide) (hl21 (by assumption)).2.2 ?_; intro op9 m9 vk9 vn9 vs9 ar9 es9 hx9 hes9)
    | (with_reducible refine Asm.mk2 ?_ ?_)
    | ((fail_if_success (with_reducible first | refine hQ _ ?_ | refine Side.mk ?_ | refine isCP hcp ?_ | refine isCC hcc ?_ | refine isLP hlp ?_ | refine Ix.mk ?_ | refine SIx.mk ?_ | refine SEx.mk ?_ | refine EIx.mk ?_ | refine RIx.mk ?_ | show False | refine hR ?_ _ ?_ ?_ ?_ ?_ ?_ | refine hR2 ?_ _ ?_ ?_ ?_ ?_ ?_)); cbv))
  all_goals clear hpc hevz his hnum0 hnum1
  · exact ⟨rfl, rfl, rfl, by omega, hok, rfl, (sd1 (by assumption)).1, (sd1 (by assumption)).2⟩
  · rename_i zm hzm zg hzg zn hzn
    exact ⟨(sd2 _ _ hzm hzn).1, (sd2 _ _ hzm hzn).2⟩
  · rename_i zb hzb zm hzm zg hzg zn hzn zL hzL zo hzo
    have hlt : decide (i < zl) = true := by assumption
    have e := hstep hlt _ (by assumption)
    rw [rg.wrap hlt] at hz
    have hL3' : L ++ [(Ex.mk op2 m2 ⟨vk2, vn2, vs2⟩ ar2).cells] = L3 := by
      rw [← hL3, ← hzL, cells_mk, show ar2.map Ex.cells = es2 from by assumption]; exact (set_last _ _ _ _ hm).symm
    refine hR (i + 1, zg, L3, zn, zb) _ ⟨rg.next hlt, ?_, ?_, ?_⟩ (rg.less hlt) ⟨rfl, hz ▸ rfl, trivial⟩ ⟨rfl, rfl, rfl, rfl, rfl, trivial⟩ rfl
    · show (FL.take (i + 1).toNat).map Ex.cells = L3
      rw [e, List.map_append, hl, ← hL3', List.map_cons, List.map_nil]
    · show L3.length = zn
      rw [← hL3', ← hzn, List.length_append, hm]; rfl
    · show (FL.take (i + 1).toNat).all knownE = zb
      rw [e, List.all_append, hkn]; simp [knownE, *]
  · exact ⟨rfl, rfl, rfl, by omega, hok, rfl, (sd1 (by assumption)).1, (sd1 (by assumption)).2⟩
  · rename_i zm hzm zg hzg zn hzn
    exact ⟨(sd2 _ _ hzm hzn).1, (sd2 _ _ hzm hzn).2⟩
  · rename_i  zm hzm zg hzg zn hzn zL hzL zo hzo
    have hlt : decide (i < zl) = true := by assumption
    have e := hstep hlt _ (by assumption)
    rw [rg.wrap hlt] at hz
    have hL3' : L ++ [(Ex.mk op2 m2 ⟨vk2, vn2, vs2⟩ ar2).cells] = L3 := by
      rw [← hL3, ← hzL, cells_mk, show ar2.map Ex.cells = es2 from by assumption]; exact (set_last _ _ _ _ hm).symm
    refine hR (i + 1, zg, L3, zn, false) _ ⟨rg.next hlt, ?_, ?_, ?_⟩ (rg.less hlt) ⟨rfl, hz ▸ rfl, trivial⟩ ⟨rfl, rfl, rfl, rfl, rfl, trivial⟩ rfl
    · show (FL.take (i + 1).toNat).map Ex.cells = L3
      rw [e, List.map_append, hl, ← hL3', List.map_cons, List.map_nil]
    · show L3.length = zn
      rw [← hL3', ← hzn, List.length_append, hm]; rfl
    · show (FL.take (i + 1).toNat).all knownE = false
      rw [e, List.all_append, hkn]; simp [knownE, *]
  · exact ⟨rfl, by omega⟩
  all_goals
    (refine hQ _ ?_
     rw [← hq, foldN]
     clear hQ hcp hcc hlp hR hq)
  all_goals try (rw [if_pos (e0 _ (by assumption) (by assumption)), cells_mk, hzz (by assumption) _ (by assumption)]; done)
  all_goals first
    | (rw [if_pos (e0 _ (by assumption) (by assumption)), cells_mk, hzz (by assumption) _ (by assumption)])
    | (rw [if_neg (e0' _ (by assumption) (by assumption)), if_pos (hall (by assumption)), hE]
       exact congrArg (fun c => [PV.agg c]) (const_cells ⟨ek, en, ess⟩).symm)
    | (rw [if_neg (e0' _ (by assumption) (by assumption)), if_neg (by rw [hall (by assumption)]; decide)]
       first
         | (have a : op = 19 := of_decide_eq_true (by assumption)
            first
              | (have b : isE false ((FL[0]?).getD zeroE) = true := by assumption
                 rw [if_pos ⟨a, by rw [hany (.inl a), b]; rfl⟩, const_cells]
                 rfl)
              | (have b : isE false ((FL[1]?).getD zeroE) = true := by assumption
                 rw [if_pos ⟨a, by rw [hany (.inl a), b, Bool.or_true]⟩, const_cells]
                 rfl))
         | (have n19 : ¬ (op = 19 ∧ FL.any (isE false) = true) := by
              rintro ⟨a, b⟩
              first
                | (have g : decide (op = 19) = false := by assumption
                   exact of_decide_eq_false g a)
                | (have b1 : isE false ((FL[0]?).getD zeroE) = false := by assumption
                   have b2 : isE false ((FL[1]?).getD zeroE) = false := by assumption
                   rw [hany (.inl a), b1, b2] at b; cases b)
            rw [if_neg n19]
            clear n19
            first
              | (have a : op = 20 := of_decide_eq_true (by assumption)
                 first
                   | (have b : isE true ((FL[0]?).getD zeroE) = true := by assumption
                      rw [if_pos ⟨a, by rw [hany (.inr a), b]; rfl⟩, const_cells]
                      rfl)
                   | (have b : isE true ((FL[1]?).getD zeroE) = true := by assumption
                      rw [if_pos ⟨a, by rw [hany (.inr a), b, Bool.or_true]⟩, const_cells]
                      rfl))
              | (have n20 : ¬ (op = 20 ∧ FL.any (isE true) = true) := by
                   rintro ⟨a, b⟩
                   first
                     | (have g : decide (op = 20) = false := by assumption
                        exact of_decide_eq_false g a)
                     | (have b1 : isE true ((FL[0]?).getD zeroE) = false := by assumption
                        have b2 : isE true ((FL[1]?).getD zeroE) = false := by assumption
                        rw [hany (.inr a), b1, b2] at b; cases b)
                 rw [if_neg n20]
                 clear n20
                 first
                   | (have a : op = 21 := of_decide_eq_true (by assumption)
                      have x0 : FL[0]? = some (.mk op0 m0 ⟨vk0, vn0, vs0⟩ ar0) := hx0
                      have b : decide (op0 = 2) = true := by assumption
                      rw [x0, Option.getD_some, if_pos ⟨a, b⟩]
                      first
                        | (have c : trueV (Ex.mk op0 m0 ⟨vk0, vn0, vs0⟩ ar0).val = true := by
                             rw [show (Ex.mk op0 m0 ⟨vk0, vn0, vs0⟩ ar0).val = ⟨vk0, vn0, vs0⟩ from rfl]; assumption
                           have x1 : FL[1]? = some (.mk op1 m1 ⟨vk1, vn1, vs1⟩ ar1) := hx1
                           rw [if_pos c, x1, Option.getD_some, cells_mk, hes1])
                        | (have c : trueV (Ex.mk op0 m0 ⟨vk0, vn0, vs0⟩ ar0).val = false := by
                             rw [show (Ex.mk op0 m0 ⟨vk0, vn0, vs0⟩ ar0).val = ⟨vk0, vn0, vs0⟩ from rfl]; assumption
                           have x2 : FL[2]? = some (.mk op9 m9 ⟨vk9, vn9, vs9⟩ ar9) := hx9
                           rw [if_neg (by rw [c]; decide), x2, Option.getD_some, cells_mk, hes9]))
                   | (have n21 : ¬ (op = 21 ∧ knownE ((FL[0]?).getD zeroE) = true) := by
                        rintro ⟨a, b⟩
                        first
                          | (have g : decide (op = 21) = false := by assumption
                             exact of_decide_eq_false g a)
                          | (have x0 : FL[0]? = some (.mk op0 m0 ⟨vk0, vn0, vs0⟩ ar0) := hx0
                             have g : decide (op0 = 2) = false := by assumption
                             rw [x0, Option.getD_some, knownE, g] at b; cases b)
                      rw [if_neg n21, cells_mk, hzz (by assumption) _ (by assumption)]))))
end Go.Proofs.YtnhmnfokbinplaaGreat

namespace Go.Proofs.YtnhmnfokbinplaaGreat
open Go Go.RowKit
set_option maxRecDepth 100000
set_option linter.unusedSimpArgs false
set_option linter.unusedVariables false

def insAt (x : Int) : List Int → Nat
  | [] => 0
  | y :: r => if y < x then insAt x r + 1 else 0
def insC (x : Int) (L : List Int) : List Int := if L[insAt x L]? = some x then L else L.take (insAt x L) ++ x :: L.drop (insAt x L)
mutual
def colsE : Ex → List Int → List Int
  | .mk op n _ ar, L => colsKL ar (if op = 1 then insC n L else L)
def colsKL : List Ex → List Int → List Int
  | [], L => L
  | e :: r, L => colsKL r (colsE e L)
end
theorem insAt_le (x : Int) : ∀ L : List Int, insAt x L ≤ L.length
  | [] => Nat.le_refl _
  | y :: r => by
    have := insAt_le x r
    rw [insAt]; split <;> simp; omega
theorem insAt_lt (x : Int) : ∀ (L : List Int) (i : Nat) (y : Int), i < insAt x L → L[i]? = some y → y < x
  | [], i, y, h, _ => by simp [insAt] at h
  | z :: r, i, y, h, hy => by
    rw [insAt] at h
    split at h
    · cases i with
      | zero => simp at hy; omega
      | succ i => exact insAt_lt x r i y (by omega) (by simpa using hy)
    · omega
theorem insAt_at (x : Int) : ∀ (L : List Int) (y : Int), L[insAt x L]? = some y → ¬ y < x
  | [], y, h => by simp [insAt] at h
  | z :: r, y, h => by
    rw [insAt] at h
    split at h
    · exact insAt_at x r y (by simpa using h)
    · simp at h; omega
theorem insC_len (x : Int) (L : List Int) : (insC x L).length ≤ L.length + 1 := by
  have := insAt_le x L
  rw [insC]; split
  · omega
  · simp; omega

/-- An argument told by its parts is the whole. -/
theorem ACall.headK {P : Program} {f : FuncId} {x : AV} {y : PV} {args : List AV} {H : List AObj} {Q : AV → List AObj → Prop} (h : ACall P f (.p y :: args) H Q) (hx : pureX x = some y) : ACall P f (x :: args) H Q :=
  ⟨fun B G w vals wr rv => h.run B G w vals wr ⟨rv.1, fun i z v hz hv => by
    cases i with
    | zero =>
      simp only [List.getElem?_cons_zero, Option.some.injEq] at hz
      subst hz
      rw [pureX_eq] at hx
      exact .p (pure_ok (rv.2 0 x v rfl hv) hx)
    | succ i => exact rv.2 (i + 1) z v hz hv⟩⟩
theorem frameK {P : Program} {cc : FuncId → List AV → List AObj → (AV → List AObj → Prop) → Prop} (hcc : ACall P = cc) {f : FuncId} {args0 args rest : List AV} {x : AV} {y : PV} {H0 H1 H : List AObj} {X : AV} {K : AV → List AObj → Prop} (s : List Nat)
    (h : ACall P f (.p y :: args0) H0 fun r H' => r = X ∧ takeX H' (lenX H1) = H1) (hs : onceX s = true) (hl : lenX H1 = lenX s) (ha : args = x :: rest) (hx : pureX x = some y) (hr : rest = AV.renL s args0) (hH : optL (nth H) s = some (mapX (AObj.ren s) H0)) (hlt : (AV.ltL (lenX s) (.p y :: args0) && ltH (lenX s) H0 && (AV.ltB (lenX s) X && ltH (lenX s) H1)) = true)
    (k : K (AV.ren s X) (backX s s H1 H)) : cc f args H K := by
  subst hcc ha
  rw [lenX_eq s] at hl hlt
  rw [Bool.and_eq_true, Bool.and_eq_true (AV.ltB _ _)] at hlt
  refine ACall.headK ?_ hx
  rw [show (AV.p y :: rest) = AV.renL s (.p y :: args0) by rw [hr]; rfl]
  refine h.frame s hs rfl hH hlt.1 ?_
  rintro r H' ⟨rfl, hH'⟩
  rw [hl] at hH'
  rw [hH']
  exact ⟨hlt.2.1, by rw [← lenX_eq]; exact hl, hlt.2.2, k⟩


def colH (g n : Nat) (C : List (List PV)) : List AObj := [.cells [.vec 2 g 1 0 n], .cells [.fn 40 [.ref 0 0, .ref 1 0]], .vec g C 1]
def insG (x : Int) (p : Nat × List Int) : Nat × List Int := if p.2[insAt x p.2]? = some x then p else (p.1 + 1, p.2.take (insAt x p.2) ++ x :: p.2.drop (insAt x p.2))
mutual
def colsG : Ex → Nat × List Int → Nat × List Int
  | .mk op n _ ar, p => colsGL ar (if op = 1 then insG n p else p)
def colsGL : List Ex → Nat × List Int → Nat × List Int
  | [], p => p
  | e :: r, p => colsGL r (colsG e p)
end
theorem insG_2 (x : Int) (p : Nat × List Int) : (insG x p).2 = insC x p.2 := by
  rw [insG, insC]; split <;> rfl
mutual
theorem colsG_2 : ∀ (e : Ex) (p : Nat × List Int), (colsG e p).2 = colsE e p.2
  | .mk op n v ar, p => by
    rw [colsG, colsE, colsGL_2]
    split
    · rw [insG_2]
    · rfl
theorem colsGL_2 : ∀ (l : List Ex) (p : Nat × List Int), (colsGL l p).2 = colsKL l p.2
  | [], p => rfl
  | e :: r, p => by rw [colsGL, colsKL, colsGL_2, colsG_2]
end
mutual
theorem colsG_len : ∀ (e : Ex) (p : Nat × List Int), (colsG e p).2.length ≤ p.2.length + e.sz
  | .mk op n v ar, p => by
    rw [colsG, Ex.sz]
    have := colsGL_len ar (if op = 1 then insG n p else p)
    have h : (if op = 1 then insG n p else p).2.length ≤ p.2.length + 1 := by
      split
      · rw [insG_2]; exact insC_len n p.2
      · omega
    omega
theorem colsGL_len : ∀ (l : List Ex) (p : Nat × List Int), (colsGL l p).2.length ≤ p.2.length + szL l
  | [], p => by simp [colsGL, szL]
  | e :: r, p => by
    rw [colsGL, szL]
    have := colsGL_len r (colsG e p)
    have := colsG_len e p
    omega
end
def ColC (e : Ex) : Prop := ∀ (cells : List PV) (g : Nat) (L : List Int) (n : Nat) (C : List (List PV)), e.cells = cells → L.map i64c = C → C.length = n → L.length + e.sz ≤ 1000000 →
  ∃ g' L' n' C', colsG e (g, L) = (g', L') ∧ L'.map i64c = C' ∧ C'.length = n' ∧ ACall Tryz.prog 40 [.p (.agg cells), .ref 0 0, .ref 1 0] (colH g n C) fun r H' => r = .tup [] ∧ takeX H' 3 = colH g' n' C'

set_option maxHeartbeats 4000000 in
theorem col_c (op m vk vn : Int) (vs : ByteArray) (ar : List Ex) (es : List (List PV)) (hes : ar.map Ex.cells = es) (hal : ar.length ≤ 140737488355328) (IH : ∀ x, x ∈ ar → ColC x) (g : Nat) (L : List Int) (n : Nat) (C : List (List PV)) (hC : L.map i64c = C) (hn : C.length = n) (hsz : L.length + (szL ar + 1) ≤ 1000000)
    (g' : Nat) (L' : List Int) (n' : Nat) (C' : List (List PV)) (hq : colsG (.mk op m ⟨vk, vn, vs⟩ ar) (g, L) = (g', L')) (hC' : L'.map i64c = C') (hn' : C'.length = n') :
    ACall Tryz.prog 40 [.p (.agg [.int .i64 op, .int .i64 m, .int .i64 vk, .int .i64 vn, .str vs, .sl es]), .ref 0 0, .ref 1 0] (colH g n C) fun r H' => r = .tup [] ∧ takeX H' 3 = colH g' n' C' := by
  have hel : es.length = ar.length := by rw [← hes]; simp
  rw [colsG] at hq
  have hCl : C.length = L.length := by rw [← hC]; simp
  refine ACall.x (nt := 60) (res := []) mixed tt_ok [] Tryz.func40 rfl rfl rfl c40 (Nat.le_of_ble_eq_true rfl) ?_
  intro cp cc lp Q' hcp hcc hlp hQ
  repeat' (first
    | (with_reducible refine Nm.mk ?_; intro z hz)
    | (with_reducible refine IfB.mk ?_ ?_ <;> (intro h; cases h))
    | (with_reducible refine Two.l ?_; refine Asm.mk ?_ ?_; focus (decide +kernel))
    | (with_reducible refine Two.r ?_)
    | (with_reducible refine Asm.mk ?_ ?_; focus (first | kernel_rfl | decide))
    | (with_reducible refine Asm.mk2 ?_ ?_)
    | ((fail_if_success (with_reducible first | refine hQ _ _ ?_ | refine Side.mk ?_ | refine isCP hcp ?_ | refine isCC hcc ?_ | refine isLP hlp ?_ | refine Ix.mk ?_ | refine SIx.mk ?_ | refine SEx.mk ?_ | refine EIx.mk ?_ | refine RIx.mk ?_ | show False | refine hR ?_ _ ?_ ?_ ?_ ?_ ?_ | refine hR2 ?_ _ ?_ ?_ ?_ ?_ ?_)); cbv))
  · have hop : op = 1 := by simpa using (show decide (op = 1) = true by assumption)
    rw [if_pos hop] at hq
    obtain ⟨at0, hat⟩ : ∃ a, insAt m L = a := ⟨_, rfl⟩
    have hatl : at0 ≤ L.length := by rw [← hat]; exact insAt_le m L
    have hget : ∀ (k : Nat) (y : Int), L[k]? = some y → C[k]? = some [.int .i64 y] := by
      intro k y h; rw [← hC, List.getElem?_map, h]; rfl
    refine loopK (ι := Int) mixed tt_ok hcp hcc hlp [1, 2, 3] (fun i => [(4, .p (.int .i64 i))]) (fun i => 0 ≤ i ∧ i.toNat ≤ at0) (fun i => at0 - i.toNat) 0 (fun _ => rfl) ⟨by decide, Nat.zero_le _⟩ ⟨rfl, trivial⟩ ?_
    rintro R i ⟨hi0, hi1⟩ hR
    obtain ⟨y0, hy0⟩ : ∃ y, (L[i.toNat]?).getD 0 = y := ⟨_, rfl⟩
    have hidx : ∀ z : Int, (n : Int) = z → decide (i < z) = true → C[i.toNat]? = some [.int .i64 y0] := by
      intro z h1 h2
      simp only [decide_eq_true_eq] at h2
      have hlt : i.toNat < L.length := by omega
      refine hget _ _ ?_
      rw [← hy0, List.getElem?_eq_getElem hlt]; rfl
    have hoff : ∀ {z : Nat}, (0 + i.toNat) * 1 = z → i.toNat * 1 = z := by intro z h; omega
    have hin : ∀ {z : Int}, decide (i < z) = true → (n : Int) = z → 0 ≤ i ∧ i < (n : Int) := by
      intro z h1 h2; simp only [decide_eq_true_eq] at h1; omega
    have hin2 : ∀ {z : Int}, decide (i = z) = false → (n : Int) = z → 0 ≤ i ∧ i < (n : Int) := by
      intro z h1 h2; simp only [decide_eq_false_iff_not] at h1; omega
    have hidx2 : ∀ {z : Int}, decide (i = z) = false → (n : Int) = z → C[i.toNat]? = some [.int .i64 y0] := by
      intro z h1 h2
      simp only [decide_eq_false_iff_not] at h1
      refine hidx z h2 ?_
      simp only [decide_eq_true_eq]; omega
    have hile : i ≤ (n : Int) := by omega
    have hnl : n = L.length := by omega
    have hposA : ∀ {z : Int}, decide (i = z) = true → (n : Int) = z → i.toNat = at0 := by
      intro z h1 h2; simp only [decide_eq_true_eq] at h1; omega
    have hLy : i.toNat < L.length → L[i.toNat]? = some y0 := by
      intro h; rw [← hy0, List.getElem?_eq_getElem h]; rfl
    have hposB : ∀ {z : Int}, decide (y0 < m) = false → decide (i < z) = true → (n : Int) = z → i.toNat = at0 := by
      intro z h1 h2 h3
      simp only [decide_eq_true_eq, decide_eq_false_iff_not] at h1 h2
      rcases Nat.lt_or_ge i.toNat at0 with h | h
      · exact absurd (insAt_lt m L i.toNat y0 (by rw [hat]; exact h) (hLy (by omega))) h1
      · omega
    have hnotA : ∀ {z : Int}, decide (i = z) = true → (n : Int) = z → ¬ L[at0]? = some m := by
      intro z h1 h2 h3
      have := hposA h1 h2
      simp only [decide_eq_true_eq] at h1
      have := (List.getElem?_eq_some_iff.1 h3).1
      omega
    have hnotB : ∀ {z : Int}, (!decide (y0 = m)) = true → decide (y0 < m) = false → decide (i < z) = true → (n : Int) = z → ¬ L[at0]? = some m := by
      intro z h1 h2 h3 h4 h5
      have hp := hposB h2 h3 h4
      simp only [decide_eq_true_eq] at h3
      have e : ¬ y0 = m := by simpa using h1
      rw [← hp, hLy (by omega)] at h5
      simp only [Option.some.injEq] at h5
      exact e h5
    have hyes : ∀ {z : Int}, (!decide (y0 = m)) = false → decide (y0 < m) = false → decide (i < z) = true → (n : Int) = z → L[at0]? = some m := by
      intro z h1 h2 h3 h4
      have hp := hposB h2 h3 h4
      simp only [decide_eq_true_eq] at h3
      have e : y0 = m := by simpa using h1
      rw [← hp, ← e]; exact hLy (by omega)
    have hno : ∀ {z z2 : Int}, decide (i < z) = false → decide (i = z2) = false → (n : Int) = z → (n : Int) = z2 → False := by
      intro z z2 h1 h2 h3 h4
      simp only [decide_eq_false_iff_not] at h1 h2
      omega
    have hstep : ∀ {z : Int}, decide (i < z) = true → (n : Int) = z → decide (y0 < m) = true → IntKind.i64.wrap (i + 1) = i + 1 ∧ (i + 1).toNat ≤ at0 := by
      intro z h1 h2 h3
      simp only [decide_eq_true_eq] at h1 h3
      refine ⟨wrap_in (by omega), ?_⟩
      rcases Nat.lt_or_ge i.toNat at0 with h | h
      · omega
      · have he : i.toNat = at0 := by omega
        have := hLy (by omega)
        rw [he, ← hat] at this
        exact absurd h3 (insAt_at m L y0 this)
    have hok : okEs 1 C = true := by rw [← hC]; exact List.all_eq_true.2 fun e he => by obtain ⟨c, _, rfl⟩ := List.mem_map.1 he; rfl
    have hokt : ∀ k, okEs 1 (C.take k) = true := fun k => List.all_eq_true.2 fun e he => List.all_eq_true.1 hok e (List.mem_of_mem_take he)
    have hokd : ∀ k j, okEs 1 ((C.drop k).take j) = true := fun k j => List.all_eq_true.2 fun e he => List.all_eq_true.1 hok e (List.mem_of_mem_drop (List.mem_of_mem_take he))
    have hokm : okEs 1 [[PV.int .i64 m]] = true := rfl
    have hA : (0 : Int) ≤ 0 ∧ 0 ≤ i ∧ i ≤ (n : Int) := ⟨by decide, hi0, hile⟩
    have hB : 0 ≤ i ∧ i ≤ Int.ofNat n ∧ Int.ofNat n ≤ (n : Int) := ⟨hi0, hile, Int.le_refl _⟩
    have hC3 : ∀ {x y : Nat}, 0 + i.toNat = x → (Int.ofNat n).toNat - i.toNat = y → g = g ∧ 1 = 1 ∧ x + y ≤ C.length := by
      intro x y h1 h2
      have : (Int.ofNat n).toNat = n := rfl
      exact ⟨rfl, rfl, by omega⟩
    have hD : ∀ {x y : Nat} {z : List (List PV)}, (C.drop x).take y = z → okEs 1 [[PV.int .i64 m]] = true ∧ okEs 1 z = true ∧ [[PV.int .i64 m]].length + z.length ≤ maxLen ∧ ([[PV.int .i64 m]].length + z.length) * 8 ≤ 140737488355328 := by
      intro x y z h
      have hl : z.length ≤ 1000000 := by rw [← h, List.length_take, List.length_drop]; omega
      exact ⟨rfl, by rw [← h]; exact hokd x y, by simp only [List.length_cons, List.length_nil, maxLen]; omega, by simp only [List.length_cons, List.length_nil]; omega⟩
    have hE : ∀ {x y u v : Nat} {z z' : List (List PV)}, 0 + Int.toNat 0 = x → i.toNat - Int.toNat 0 = y → (C.drop u).take v = z → [[PV.int .i64 m]] ++ z = z' → g = g ∧ 1 = 1 ∧ x = 0 ∧ y ≤ C.length ∧ okEs 1 (C.take y) = true ∧ okEs 1 z' = true ∧ y + z'.length ≤ maxLen ∧ (y + z'.length) * 8 ≤ 140737488355328 := by
      intro x y u v z z' h1 h2 h3 h4
      have hl : z.length ≤ 1000000 := by rw [← h3, List.length_take, List.length_drop]; omega
      have h0 : Int.toNat 0 = 0 := rfl
      have hl2 : z'.length = 1 + z.length := by rw [← h4, List.length_append]; rfl
      refine ⟨rfl, rfl, by omega, by omega, hokt y, ?_, by simp only [maxLen]; omega, by omega⟩
      rw [← h4, ← h3]
      exact List.all_eq_true.2 fun e he => by
        rcases List.mem_append.1 he with h | h
        · exact List.all_eq_true.1 hokm e h
        · exact List.all_eq_true.1 (hokd u v) e h
    repeat' (first
      | (with_reducible refine Nm.mk ?_; intro z hz)
      | (with_reducible refine IfB.mk ?_ ?_ <;> (intro h; cases h))
      | (with_reducible refine Two.l ?_; refine Asm.mk ?_ ?_; focus (decide +kernel))
      | (with_reducible refine Two.r ?_)
      | (with_reducible refine Asm.mk ?_ ?_; focus (first | rfl | exact hin (by assumption) (by assumption) | exact hin2 (by assumption) (by assumption) | exact hA | exact hB | exact hC3 (by assumption) (by assumption) | exact hD (by assumption) | exact hE (by assumption) (by assumption) (by assumption) (by assumption) | (show (_ : Bool) = true; kernel_rfl)))
      | (with_reducible refine EIx.at_ i.toNat [.int .i64 y0] (hoff (by assumption)) (hidx _ (by assumption) (by assumption)) ?_)
      | (with_reducible refine EIx.at_ i.toNat [.int .i64 y0] (hoff (by assumption)) (hidx2 (by assumption) (by assumption)) ?_)
      | (with_reducible refine Asm.mk2 ?_ ?_)
      | ((fail_if_success (with_reducible first | refine hQ _ _ ?_ | refine Side.mk ?_ | refine isCP hcp ?_ | refine isCC hcc ?_ | refine isLP hlp ?_ | refine Ix.mk ?_ | refine SIx.mk ?_ | refine SEx.mk ?_ | refine EIx.mk ?_ | refine RIx.mk ?_ | show False | refine hR ?_ _ ?_ ?_ ?_ ?_ ?_ | refine hR2 ?_ _ ?_ ?_ ?_ ?_ ?_)); cbv))
    · have hlt : decide (y0 < m) = true := by assumption
      have hst := hstep (by assumption) (by assumption) hlt
      rw [hst.1] at hz
      exact hR (i + 1) _ ⟨by omega, hst.2⟩ (by omega) ⟨hz ▸ rfl, trivial⟩ ⟨rfl, rfl, rfl, trivial⟩ rfl
    · skip
      rename_i pz hpz pb hpb pu hpu pv hpv pd hpd pe hpe p3 hp3 pg hpg pn hpn pC hpC
      have hie : i.toNat = at0 := by first | exact hposA (by assumption) (by assumption) | exact hposB (by assumption) (by assumption) (by assumption)
      have hnot : ¬ L[at0]? = some m := by first | exact hnotA (by assumption) (by assumption) | exact hnotB (by assumption) (by assumption) (by assumption) (by assumption)
      rw [insG, hat, if_neg hnot] at hq
      have hb0 : pb = at0 := by
        have : Int.toNat 0 = 0 := rfl
        omega
      have hu0 : pu = at0 := by omega
      have hv0 : pv = n - at0 := by
        have : (Int.ofNat n).toNat = n := rfl
        omega
      have hcg : colsGL (ar.drop 0) (pg, L.take at0 ++ m :: L.drop at0) = (g', L') := by rw [List.drop_zero, ← hpg]; exact hq
      have hC1 : (L.take at0 ++ m :: L.drop at0).map i64c = pC := by
        rw [← hpC, ← hpe, ← hpd, hb0, hu0, hv0, ← hC, List.map_append, List.map_take, List.map_cons, List.map_drop, List.take_of_length_le (l := List.drop at0 (L.map i64c)) (by rw [List.length_drop, List.length_map]; omega)]
        rfl
      have hn1 : pC.length = pn := by rw [← hpC, ← hpn, List.length_append, List.length_take, Nat.min_eq_left (by omega)]
      have hsz1 : (L.take at0 ++ m :: L.drop at0).length + szL (ar.drop 0) ≤ 1000000 := by
        rw [List.drop_zero, List.length_append, List.length_take, List.length_cons, List.length_drop]; omega
      clear hpz hpb hpu hpv hpd hpe hp3 hpg hpn hpC hidx hoff hin hin2 hidx2 hok hokt hokd hokm hA hB hC3 hD hE hposA hposB hnotA hnotB hget hile hR
      all_goals (try simp only [nc] at hz)
      all_goals (try simp only [nc'] at hz)
      have hzl : z.toNat = ar.length ∧ 0 ≤ z := by omega
      obtain ⟨hzl, hzl0⟩ := hzl
      clear hz
      generalize z = zl at *
      refine loopT (ι := Int × Nat × List Int × Nat × List (List PV)) mixed tt_ok hcp hcc hlp [1, 2, 50, 51] (fun p => [(52, .p (.int .i64 p.1))]) (fun p => [.cells [.vec 2 p.2.1 1 0 p.2.2.2.1], .cells [.fn 40 [.ref 0 0, .ref 1 0]], .vec p.2.1 p.2.2.2.2 1, .cells [.p (.int .i64 op), .p (.int .i64 m), .p (.int .i64 vk), .p (.int .i64 vn), .p (.str vs), .p (.sl es)], .spare p3 1])
        (fun p => (0 ≤ p.1 ∧ p.1 ≤ zl) ∧ p.2.2.1.map i64c = p.2.2.2.2 ∧ p.2.2.2.2.length = p.2.2.2.1 ∧ p.2.2.1.length + szL (ar.drop p.1.toNat) ≤ 1000000 ∧ colsGL (ar.drop p.1.toNat) (p.2.1, p.2.2.1) = (g', L')) (fun p => (zl - p.1).toNat) (0, _, _, _, _) 5 (fun _ => rfl) ⟨⟨by show (0 : Int) ≤ 0; omega, by show (0 : Int) ≤ zl; omega⟩, hC1, hn1, hsz1, hcg⟩ ⟨rfl, trivial⟩ rfl ?_
      rintro R ⟨i, g2, L2, n2, C2⟩ ⟨⟨hi0, hi1⟩, hC2, hn2, hsz2, hcg2⟩ hR
      replace hi0 : 0 ≤ i := hi0
      replace hi1 : i ≤ zl := hi1
      replace hC2 : L2.map i64c = C2 := hC2
      replace hn2 : C2.length = n2 := hn2
      replace hsz2 : L2.length + szL (ar.drop i.toNat) ≤ 1000000 := hsz2
      replace hcg2 : colsGL (ar.drop i.toNat) (g2, L2) = (g', L') := hcg2
      have hk : decide (i < zl) = true → i < ar.length := by simp only [decide_eq_true_eq]; omega
      have hki : decide (i < zl) = true → i + 1 ≤ zl ∧ i < 9223372036854775806 := by simp only [decide_eq_true_eq]; omega
      have hdr : ∀ x, ar[i.toNat]? = some x → ar.drop i.toNat = x :: ar.drop (i + 1).toNat := by
        intro x hx
        rw [List.drop_eq_getElem_cons (List.getElem?_eq_some_iff.1 hx).1, (List.getElem?_eq_some_iff.1 hx).2, show (i + 1).toNat = i.toNat + 1 by omega]
      have hpc : ∀ (op' m' vk' vn' : Int) (vs' : ByteArray) (ar' : List Ex) (es' : List (List PV)), ar[i.toNat]? = some (.mk op' m' ⟨vk', vn', vs'⟩ ar') → ar'.map Ex.cells = es' → ∃ g3 L3 n3 C3, colsG (.mk op' m' ⟨vk', vn', vs'⟩ ar') (g2, L2) = (g3, L3) ∧ L3.map i64c = C3 ∧ C3.length = n3 ∧
          ACall Tryz.prog 40 [.p (.agg [.int .i64 op', .int .i64 m', .int .i64 vk', .int .i64 vn', .str vs', .sl es']), .ref 0 0, .ref 1 0] (colH g2 n2 C2) fun r H' => r = .tup [] ∧ takeX H' 3 = colH g3 n3 C3 := by
        intro op' m' vk' vn' vs' ar' es' hx he
        have hb : L2.length + (Ex.mk op' m' ⟨vk', vn', vs'⟩ ar').sz ≤ 1000000 := by
          rw [hdr _ hx, szL] at hsz2; omega
        exact IH _ (List.mem_of_getElem? hx) _ g2 L2 n2 C2 (by rw [cells_mk, he]) hC2 hn2 hb
      repeat' (first
        | (with_reducible refine Nm.mk ?_; intro z hz)
        | (with_reducible refine IfB.mk ?_ ?_ <;> (intro h; cases h))
        | (with_reducible refine Two.l ?_; refine Asm.mk ?_ ?_; focus (decide +kernel))
        | (with_reducible refine Two.r ?_)
        | (with_reducible refine Asm.mk ?_ ?_; focus (show (_ : Bool) = true; kernel_rfl))
        | (with_reducible refine Ix.ex hes hi0 (hk (by assumption)) ?_; intro op' m' vk' vn' vs' ar' es' hx hes')
        | (with_reducible refine isCC hcc ?_; obtain ⟨g3, L3, n3, C3, hc3, hC3, hn3, hcall⟩ := hpc _ _ _ _ _ _ _ hx hes'; refine frameK (H1 := colH g3 n3 C3) hcc [0, 1, 2] hcall rfl rfl rfl rfl rfl rfl rfl ?_)
        | (with_reducible refine Asm.mk2 ?_ ?_)
        | ((fail_if_success (with_reducible first | refine hQ _ _ ?_ | refine Side.mk ?_ | refine isCP hcp ?_ | refine isCC hcc ?_ | refine isLP hlp ?_ | refine Ix.mk ?_ | refine SIx.mk ?_ | refine SEx.mk ?_ | refine EIx.mk ?_ | refine RIx.mk ?_ | show False | refine hR ?_ _ ?_ ?_ ?_ ?_ ?_ | refine hR2 ?_ _ ?_ ?_ ?_ ?_ ?_)); cbv))
      all_goals first
        | (have hlt := hki (by assumption)
           have hwi : IntKind.i64.wrap (i + 1) = i + 1 := wrap_in (by omega)
           rw [hwi] at hz
           have hl3 := colsG_len (.mk op' m' ⟨vk', vn', vs'⟩ ar') (g2, L2)
           rw [hc3] at hl3
           have hl3' : L3.length ≤ L2.length + (Ex.mk op' m' ⟨vk', vn', vs'⟩ ar').sz := hl3
           rw [hdr _ hx, szL] at hsz2
           rw [hdr _ hx, colsGL, hc3] at hcg2
           exact hR (i + 1, g3, L3, n3, C3) _ ⟨⟨by show 0 ≤ i + 1; omega, by show i + 1 ≤ zl; omega⟩, hC3, hn3, by show L3.length + szL (ar.drop (i + 1).toNat) ≤ 1000000; omega, hcg2⟩ (by show (zl - (i + 1)).toNat < (zl - i).toNat; omega) ⟨hz ▸ rfl, trivial⟩ ⟨rfl, rfl, rfl, rfl, trivial⟩ rfl)
        | (have hge : ar.length ≤ i.toNat := by
             have : decide (i < zl) = false := by assumption
             simp only [decide_eq_false_iff_not] at this
             omega
           rw [List.drop_eq_nil_of_le hge, colsGL] at hcg2
           simp only [Prod.mk.injEq] at hcg2
           obtain ⟨q1, q2⟩ := hcg2
           refine hQ _ _ ⟨rfl, ?_⟩
           rw [← hn', ← hC', ← q1, ← q2, hC2, hn2]
           rfl)
    · skip
      rename_i pz hpz pb hpb pu hpu pv hpv pd hpd pe hpe p3 hp3 pg hpg pn hpn pC hpC
      have hie : i.toNat = at0 := by first | exact hposA (by assumption) (by assumption) | exact hposB (by assumption) (by assumption) (by assumption)
      have hnot : ¬ L[at0]? = some m := by first | exact hnotA (by assumption) (by assumption) | exact hnotB (by assumption) (by assumption) (by assumption) (by assumption)
      rw [insG, hat, if_neg hnot] at hq
      have hb0 : pb = at0 := by
        have : Int.toNat 0 = 0 := rfl
        omega
      have hu0 : pu = at0 := by omega
      have hv0 : pv = n - at0 := by
        have : (Int.ofNat n).toNat = n := rfl
        omega
      have hcg : colsGL (ar.drop 0) (pg, L.take at0 ++ m :: L.drop at0) = (g', L') := by rw [List.drop_zero, ← hpg]; exact hq
      have hC1 : (L.take at0 ++ m :: L.drop at0).map i64c = pC := by
        rw [← hpC, ← hpe, ← hpd, hb0, hu0, hv0, ← hC, List.map_append, List.map_take, List.map_cons, List.map_drop, List.take_of_length_le (l := List.drop at0 (L.map i64c)) (by rw [List.length_drop, List.length_map]; omega)]
        rfl
      have hn1 : pC.length = pn := by rw [← hpC, ← hpn, List.length_append, List.length_take, Nat.min_eq_left (by omega)]
      have hsz1 : (L.take at0 ++ m :: L.drop at0).length + szL (ar.drop 0) ≤ 1000000 := by
        rw [List.drop_zero, List.length_append, List.length_take, List.length_cons, List.length_drop]; omega
      clear hpz hpb hpu hpv hpd hpe hp3 hpg hpn hpC hidx hoff hin hin2 hidx2 hok hokt hokd hokm hA hB hC3 hD hE hposA hposB hnotA hnotB hget hile hR
      all_goals (try simp only [nc] at hz)
      all_goals (try simp only [nc'] at hz)
      have hzl : z.toNat = ar.length ∧ 0 ≤ z := by omega
      obtain ⟨hzl, hzl0⟩ := hzl
      clear hz
      generalize z = zl at *
      refine loopT (ι := Int × Nat × List Int × Nat × List (List PV)) mixed tt_ok hcp hcc hlp [1, 2, 50, 51] (fun p => [(52, .p (.int .i64 p.1))]) (fun p => [.cells [.vec 2 p.2.1 1 0 p.2.2.2.1], .cells [.fn 40 [.ref 0 0, .ref 1 0]], .vec p.2.1 p.2.2.2.2 1, .cells [.p (.int .i64 op), .p (.int .i64 m), .p (.int .i64 vk), .p (.int .i64 vn), .p (.str vs), .p (.sl es)], .spare p3 1])
        (fun p => (0 ≤ p.1 ∧ p.1 ≤ zl) ∧ p.2.2.1.map i64c = p.2.2.2.2 ∧ p.2.2.2.2.length = p.2.2.2.1 ∧ p.2.2.1.length + szL (ar.drop p.1.toNat) ≤ 1000000 ∧ colsGL (ar.drop p.1.toNat) (p.2.1, p.2.2.1) = (g', L')) (fun p => (zl - p.1).toNat) (0, _, _, _, _) 5 (fun _ => rfl) ⟨⟨by show (0 : Int) ≤ 0; omega, by show (0 : Int) ≤ zl; omega⟩, hC1, hn1, hsz1, hcg⟩ ⟨rfl, trivial⟩ rfl ?_
      rintro R ⟨i, g2, L2, n2, C2⟩ ⟨⟨hi0, hi1⟩, hC2, hn2, hsz2, hcg2⟩ hR
      replace hi0 : 0 ≤ i := hi0
      replace hi1 : i ≤ zl := hi1
      replace hC2 : L2.map i64c = C2 := hC2
      replace hn2 : C2.length = n2 := hn2
      replace hsz2 : L2.length + szL (ar.drop i.toNat) ≤ 1000000 := hsz2
      replace hcg2 : colsGL (ar.drop i.toNat) (g2, L2) = (g', L') := hcg2
      have hk : decide (i < zl) = true → i < ar.length := by simp only [decide_eq_true_eq]; omega
      have hki : decide (i < zl) = true → i + 1 ≤ zl ∧ i < 9223372036854775806 := by simp only [decide_eq_true_eq]; omega
      have hdr : ∀ x, ar[i.toNat]? = some x → ar.drop i.toNat = x :: ar.drop (i + 1).toNat := by
        intro x hx
        rw [List.drop_eq_getElem_cons (List.getElem?_eq_some_iff.1 hx).1, (List.getElem?_eq_some_iff.1 hx).2, show (i + 1).toNat = i.toNat + 1 by omega]
      have hpc : ∀ (op' m' vk' vn' : Int) (vs' : ByteArray) (ar' : List Ex) (es' : List (List PV)), ar[i.toNat]? = some (.mk op' m' ⟨vk', vn', vs'⟩ ar') → ar'.map Ex.cells = es' → ∃ g3 L3 n3 C3, colsG (.mk op' m' ⟨vk', vn', vs'⟩ ar') (g2, L2) = (g3, L3) ∧ L3.map i64c = C3 ∧ C3.length = n3 ∧
          ACall Tryz.prog 40 [.p (.agg [.int .i64 op', .int .i64 m', .int .i64 vk', .int .i64 vn', .str vs', .sl es']), .ref 0 0, .ref 1 0] (colH g2 n2 C2) fun r H' => r = .tup [] ∧ takeX H' 3 = colH g3 n3 C3 := by
        intro op' m' vk' vn' vs' ar' es' hx he
        have hb : L2.length + (Ex.mk op' m' ⟨vk', vn', vs'⟩ ar').sz ≤ 1000000 := by
          rw [hdr _ hx, szL] at hsz2; omega
        exact IH _ (List.mem_of_getElem? hx) _ g2 L2 n2 C2 (by rw [cells_mk, he]) hC2 hn2 hb
      repeat' (first
        | (with_reducible refine Nm.mk ?_; intro z hz)
        | (with_reducible refine IfB.mk ?_ ?_ <;> (intro h; cases h))
        | (with_reducible refine Two.l ?_; refine Asm.mk ?_ ?_; focus (decide +kernel))
        | (with_reducible refine Two.r ?_)
        | (with_reducible refine Asm.mk ?_ ?_; focus (show (_ : Bool) = true; kernel_rfl))
        | (with_reducible refine Ix.ex hes hi0 (hk (by assumption)) ?_; intro op' m' vk' vn' vs' ar' es' hx hes')
        | (with_reducible refine isCC hcc ?_; obtain ⟨g3, L3, n3, C3, hc3, hC3, hn3, hcall⟩ := hpc _ _ _ _ _ _ _ hx hes'; refine frameK (H1 := colH g3 n3 C3) hcc [0, 1, 2] hcall rfl rfl rfl rfl rfl rfl rfl ?_)
        | (with_reducible refine Asm.mk2 ?_ ?_)
        | ((fail_if_success (with_reducible first | refine hQ _ _ ?_ | refine Side.mk ?_ | refine isCP hcp ?_ | refine isCC hcc ?_ | refine isLP hlp ?_ | refine Ix.mk ?_ | refine SIx.mk ?_ | refine SEx.mk ?_ | refine EIx.mk ?_ | refine RIx.mk ?_ | show False | refine hR ?_ _ ?_ ?_ ?_ ?_ ?_ | refine hR2 ?_ _ ?_ ?_ ?_ ?_ ?_)); cbv))
      all_goals first
        | (have hlt := hki (by assumption)
           have hwi : IntKind.i64.wrap (i + 1) = i + 1 := wrap_in (by omega)
           rw [hwi] at hz
           have hl3 := colsG_len (.mk op' m' ⟨vk', vn', vs'⟩ ar') (g2, L2)
           rw [hc3] at hl3
           have hl3' : L3.length ≤ L2.length + (Ex.mk op' m' ⟨vk', vn', vs'⟩ ar').sz := hl3
           rw [hdr _ hx, szL] at hsz2
           rw [hdr _ hx, colsGL, hc3] at hcg2
           exact hR (i + 1, g3, L3, n3, C3) _ ⟨⟨by show 0 ≤ i + 1; omega, by show i + 1 ≤ zl; omega⟩, hC3, hn3, by show L3.length + szL (ar.drop (i + 1).toNat) ≤ 1000000; omega, hcg2⟩ (by show (zl - (i + 1)).toNat < (zl - i).toNat; omega) ⟨hz ▸ rfl, trivial⟩ ⟨rfl, rfl, rfl, rfl, trivial⟩ rfl)
        | (have hge : ar.length ≤ i.toNat := by
             have : decide (i < zl) = false := by assumption
             simp only [decide_eq_false_iff_not] at this
             omega
           rw [List.drop_eq_nil_of_le hge, colsGL] at hcg2
           simp only [Prod.mk.injEq] at hcg2
           obtain ⟨q1, q2⟩ := hcg2
           refine hQ _ _ ⟨rfl, ?_⟩
           rw [← hn', ← hC', ← q1, ← q2, hC2, hn2]
           rfl)
    · have hye : L[at0]? = some m := hyes (by assumption) (by assumption) (by assumption) (by assumption)
      rw [insG, hat, if_pos hye] at hq
      have hcg : colsGL (ar.drop 0) (g, L) = (g', L') := hq
      have hC1 := hC
      have hn1 := hn
      have hsz1 : L.length + szL (ar.drop 0) ≤ 1000000 := by rw [List.drop_zero]; omega
      clear hidx hoff hin hin2 hidx2 hok hokt hokd hokm hA hB hC3 hD hE hposA hposB hnotA hnotB hget hile hR
      all_goals (try simp only [nc] at hz)
      all_goals (try simp only [nc'] at hz)
      have hzl : z.toNat = ar.length ∧ 0 ≤ z := by omega
      obtain ⟨hzl, hzl0⟩ := hzl
      clear hz
      generalize z = zl at *
      refine loopT (ι := Int × Nat × List Int × Nat × List (List PV)) mixed tt_ok hcp hcc hlp [1, 2, 50, 51] (fun p => [(52, .p (.int .i64 p.1))]) (fun p => [.cells [.vec 2 p.2.1 1 0 p.2.2.2.1], .cells [.fn 40 [.ref 0 0, .ref 1 0]], .vec p.2.1 p.2.2.2.2 1, .cells [.p (.int .i64 op), .p (.int .i64 m), .p (.int .i64 vk), .p (.int .i64 vn), .p (.str vs), .p (.sl es)]])
        (fun p => (0 ≤ p.1 ∧ p.1 ≤ zl) ∧ p.2.2.1.map i64c = p.2.2.2.2 ∧ p.2.2.2.2.length = p.2.2.2.1 ∧ p.2.2.1.length + szL (ar.drop p.1.toNat) ≤ 1000000 ∧ colsGL (ar.drop p.1.toNat) (p.2.1, p.2.2.1) = (g', L')) (fun p => (zl - p.1).toNat) (0, _, _, _, _) 4 (fun _ => rfl) ⟨⟨by show (0 : Int) ≤ 0; omega, by show (0 : Int) ≤ zl; omega⟩, hC1, hn1, hsz1, hcg⟩ ⟨rfl, trivial⟩ rfl ?_
      rintro R ⟨i, g2, L2, n2, C2⟩ ⟨⟨hi0, hi1⟩, hC2, hn2, hsz2, hcg2⟩ hR
      replace hi0 : 0 ≤ i := hi0
      replace hi1 : i ≤ zl := hi1
      replace hC2 : L2.map i64c = C2 := hC2
      replace hn2 : C2.length = n2 := hn2
      replace hsz2 : L2.length + szL (ar.drop i.toNat) ≤ 1000000 := hsz2
      replace hcg2 : colsGL (ar.drop i.toNat) (g2, L2) = (g', L') := hcg2
      have hk : decide (i < zl) = true → i < ar.length := by simp only [decide_eq_true_eq]; omega
      have hki : decide (i < zl) = true → i + 1 ≤ zl ∧ i < 9223372036854775806 := by simp only [decide_eq_true_eq]; omega
      have hdr : ∀ x, ar[i.toNat]? = some x → ar.drop i.toNat = x :: ar.drop (i + 1).toNat := by
        intro x hx
        rw [List.drop_eq_getElem_cons (List.getElem?_eq_some_iff.1 hx).1, (List.getElem?_eq_some_iff.1 hx).2, show (i + 1).toNat = i.toNat + 1 by omega]
      have hpc : ∀ (op' m' vk' vn' : Int) (vs' : ByteArray) (ar' : List Ex) (es' : List (List PV)), ar[i.toNat]? = some (.mk op' m' ⟨vk', vn', vs'⟩ ar') → ar'.map Ex.cells = es' → ∃ g3 L3 n3 C3, colsG (.mk op' m' ⟨vk', vn', vs'⟩ ar') (g2, L2) = (g3, L3) ∧ L3.map i64c = C3 ∧ C3.length = n3 ∧
          ACall Tryz.prog 40 [.p (.agg [.int .i64 op', .int .i64 m', .int .i64 vk', .int .i64 vn', .str vs', .sl es']), .ref 0 0, .ref 1 0] (colH g2 n2 C2) fun r H' => r = .tup [] ∧ takeX H' 3 = colH g3 n3 C3 := by
        intro op' m' vk' vn' vs' ar' es' hx he
        have hb : L2.length + (Ex.mk op' m' ⟨vk', vn', vs'⟩ ar').sz ≤ 1000000 := by
          rw [hdr _ hx, szL] at hsz2; omega
        exact IH _ (List.mem_of_getElem? hx) _ g2 L2 n2 C2 (by rw [cells_mk, he]) hC2 hn2 hb
      repeat' (first
        | (with_reducible refine Nm.mk ?_; intro z hz)
        | (with_reducible refine IfB.mk ?_ ?_ <;> (intro h; cases h))
        | (with_reducible refine Two.l ?_; refine Asm.mk ?_ ?_; focus (decide +kernel))
        | (with_reducible refine Two.r ?_)
        | (with_reducible refine Asm.mk ?_ ?_; focus (show (_ : Bool) = true; kernel_rfl))
        | (with_reducible refine Ix.ex hes hi0 (hk (by assumption)) ?_; intro op' m' vk' vn' vs' ar' es' hx hes')
        | (with_reducible refine isCC hcc ?_; obtain ⟨g3, L3, n3, C3, hc3, hC3, hn3, hcall⟩ := hpc _ _ _ _ _ _ _ hx hes'; refine frameK (H1 := colH g3 n3 C3) hcc [0, 1, 2] hcall rfl rfl rfl rfl rfl rfl rfl ?_)
        | (with_reducible refine Asm.mk2 ?_ ?_)
        | ((fail_if_success (with_reducible first | refine hQ _ _ ?_ | refine Side.mk ?_ | refine isCP hcp ?_ | refine isCC hcc ?_ | refine isLP hlp ?_ | refine Ix.mk ?_ | refine SIx.mk ?_ | refine SEx.mk ?_ | refine EIx.mk ?_ | refine RIx.mk ?_ | show False | refine hR ?_ _ ?_ ?_ ?_ ?_ ?_ | refine hR2 ?_ _ ?_ ?_ ?_ ?_ ?_)); cbv))
      all_goals first
        | (have hlt := hki (by assumption)
           have hwi : IntKind.i64.wrap (i + 1) = i + 1 := wrap_in (by omega)
           rw [hwi] at hz
           have hl3 := colsG_len (.mk op' m' ⟨vk', vn', vs'⟩ ar') (g2, L2)
           rw [hc3] at hl3
           have hl3' : L3.length ≤ L2.length + (Ex.mk op' m' ⟨vk', vn', vs'⟩ ar').sz := hl3
           rw [hdr _ hx, szL] at hsz2
           rw [hdr _ hx, colsGL, hc3] at hcg2
           exact hR (i + 1, g3, L3, n3, C3) _ ⟨⟨by show 0 ≤ i + 1; omega, by show i + 1 ≤ zl; omega⟩, hC3, hn3, by show L3.length + szL (ar.drop (i + 1).toNat) ≤ 1000000; omega, hcg2⟩ (by show (zl - (i + 1)).toNat < (zl - i).toNat; omega) ⟨hz ▸ rfl, trivial⟩ ⟨rfl, rfl, rfl, rfl, trivial⟩ rfl)
        | (have hge : ar.length ≤ i.toNat := by
             have : decide (i < zl) = false := by assumption
             simp only [decide_eq_false_iff_not] at this
             omega
           rw [List.drop_eq_nil_of_le hge, colsGL] at hcg2
           simp only [Prod.mk.injEq] at hcg2
           obtain ⟨q1, q2⟩ := hcg2
           refine hQ _ _ ⟨rfl, ?_⟩
           rw [← hn', ← hC', ← q1, ← q2, hC2, hn2]
           rfl)
    · skip
      rename_i pz hpz pb hpb pu hpu pv hpv pd hpd pe hpe p3 hp3 pg hpg pn hpn pC hpC
      have hie : i.toNat = at0 := by first | exact hposA (by assumption) (by assumption) | exact hposB (by assumption) (by assumption) (by assumption)
      have hnot : ¬ L[at0]? = some m := by first | exact hnotA (by assumption) (by assumption) | exact hnotB (by assumption) (by assumption) (by assumption) (by assumption)
      rw [insG, hat, if_neg hnot] at hq
      have hb0 : pb = at0 := by
        have : Int.toNat 0 = 0 := rfl
        omega
      have hu0 : pu = at0 := by omega
      have hv0 : pv = n - at0 := by
        have : (Int.ofNat n).toNat = n := rfl
        omega
      have hcg : colsGL (ar.drop 0) (pg, L.take at0 ++ m :: L.drop at0) = (g', L') := by rw [List.drop_zero, ← hpg]; exact hq
      have hC1 : (L.take at0 ++ m :: L.drop at0).map i64c = pC := by
        rw [← hpC, ← hpe, ← hpd, hb0, hu0, hv0, ← hC, List.map_append, List.map_take, List.map_cons, List.map_drop, List.take_of_length_le (l := List.drop at0 (L.map i64c)) (by rw [List.length_drop, List.length_map]; omega)]
        rfl
      have hn1 : pC.length = pn := by rw [← hpC, ← hpn, List.length_append, List.length_take, Nat.min_eq_left (by omega)]
      have hsz1 : (L.take at0 ++ m :: L.drop at0).length + szL (ar.drop 0) ≤ 1000000 := by
        rw [List.drop_zero, List.length_append, List.length_take, List.length_cons, List.length_drop]; omega
      clear hpz hpb hpu hpv hpd hpe hp3 hpg hpn hpC hidx hoff hin hin2 hidx2 hok hokt hokd hokm hA hB hC3 hD hE hposA hposB hnotA hnotB hget hile hR
      all_goals (try simp only [nc] at hz)
      all_goals (try simp only [nc'] at hz)
      have hzl : z.toNat = ar.length ∧ 0 ≤ z := by omega
      obtain ⟨hzl, hzl0⟩ := hzl
      clear hz
      generalize z = zl at *
      refine loopT (ι := Int × Nat × List Int × Nat × List (List PV)) mixed tt_ok hcp hcc hlp [1, 2, 50, 51] (fun p => [(52, .p (.int .i64 p.1))]) (fun p => [.cells [.vec 2 p.2.1 1 0 p.2.2.2.1], .cells [.fn 40 [.ref 0 0, .ref 1 0]], .vec p.2.1 p.2.2.2.2 1, .cells [.p (.int .i64 op), .p (.int .i64 m), .p (.int .i64 vk), .p (.int .i64 vn), .p (.str vs), .p (.sl es)], .spare p3 1])
        (fun p => (0 ≤ p.1 ∧ p.1 ≤ zl) ∧ p.2.2.1.map i64c = p.2.2.2.2 ∧ p.2.2.2.2.length = p.2.2.2.1 ∧ p.2.2.1.length + szL (ar.drop p.1.toNat) ≤ 1000000 ∧ colsGL (ar.drop p.1.toNat) (p.2.1, p.2.2.1) = (g', L')) (fun p => (zl - p.1).toNat) (0, _, _, _, _) 5 (fun _ => rfl) ⟨⟨by show (0 : Int) ≤ 0; omega, by show (0 : Int) ≤ zl; omega⟩, hC1, hn1, hsz1, hcg⟩ ⟨rfl, trivial⟩ rfl ?_
      rintro R ⟨i, g2, L2, n2, C2⟩ ⟨⟨hi0, hi1⟩, hC2, hn2, hsz2, hcg2⟩ hR
      replace hi0 : 0 ≤ i := hi0
      replace hi1 : i ≤ zl := hi1
      replace hC2 : L2.map i64c = C2 := hC2
      replace hn2 : C2.length = n2 := hn2
      replace hsz2 : L2.length + szL (ar.drop i.toNat) ≤ 1000000 := hsz2
      replace hcg2 : colsGL (ar.drop i.toNat) (g2, L2) = (g', L') := hcg2
      have hk : decide (i < zl) = true → i < ar.length := by simp only [decide_eq_true_eq]; omega
      have hki : decide (i < zl) = true → i + 1 ≤ zl ∧ i < 9223372036854775806 := by simp only [decide_eq_true_eq]; omega
      have hdr : ∀ x, ar[i.toNat]? = some x → ar.drop i.toNat = x :: ar.drop (i + 1).toNat := by
        intro x hx
        rw [List.drop_eq_getElem_cons (List.getElem?_eq_some_iff.1 hx).1, (List.getElem?_eq_some_iff.1 hx).2, show (i + 1).toNat = i.toNat + 1 by omega]
      have hpc : ∀ (op' m' vk' vn' : Int) (vs' : ByteArray) (ar' : List Ex) (es' : List (List PV)), ar[i.toNat]? = some (.mk op' m' ⟨vk', vn', vs'⟩ ar') → ar'.map Ex.cells = es' → ∃ g3 L3 n3 C3, colsG (.mk op' m' ⟨vk', vn', vs'⟩ ar') (g2, L2) = (g3, L3) ∧ L3.map i64c = C3 ∧ C3.length = n3 ∧
          ACall Tryz.prog 40 [.p (.agg [.int .i64 op', .int .i64 m', .int .i64 vk', .int .i64 vn', .str vs', .sl es']), .ref 0 0, .ref 1 0] (colH g2 n2 C2) fun r H' => r = .tup [] ∧ takeX H' 3 = colH g3 n3 C3 := by
        intro op' m' vk' vn' vs' ar' es' hx he
        have hb : L2.length + (Ex.mk op' m' ⟨vk', vn', vs'⟩ ar').sz ≤ 1000000 := by
          rw [hdr _ hx, szL] at hsz2; omega
        exact IH _ (List.mem_of_getElem? hx) _ g2 L2 n2 C2 (by rw [cells_mk, he]) hC2 hn2 hb
      repeat' (first
        | (with_reducible refine Nm.mk ?_; intro z hz)
        | (with_reducible refine IfB.mk ?_ ?_ <;> (intro h; cases h))
        | (with_reducible refine Two.l ?_; refine Asm.mk ?_ ?_; focus (decide +kernel))
        | (with_reducible refine Two.r ?_)
        | (with_reducible refine Asm.mk ?_ ?_; focus (show (_ : Bool) = true; kernel_rfl))
        | (with_reducible refine Ix.ex hes hi0 (hk (by assumption)) ?_; intro op' m' vk' vn' vs' ar' es' hx hes')
        | (with_reducible refine isCC hcc ?_; obtain ⟨g3, L3, n3, C3, hc3, hC3, hn3, hcall⟩ := hpc _ _ _ _ _ _ _ hx hes'; refine frameK (H1 := colH g3 n3 C3) hcc [0, 1, 2] hcall rfl rfl rfl rfl rfl rfl rfl ?_)
        | (with_reducible refine Asm.mk2 ?_ ?_)
        | ((fail_if_success (with_reducible first | refine hQ _ _ ?_ | refine Side.mk ?_ | refine isCP hcp ?_ | refine isCC hcc ?_ | refine isLP hlp ?_ | refine Ix.mk ?_ | refine SIx.mk ?_ | refine SEx.mk ?_ | refine EIx.mk ?_ | refine RIx.mk ?_ | show False | refine hR ?_ _ ?_ ?_ ?_ ?_ ?_ | refine hR2 ?_ _ ?_ ?_ ?_ ?_ ?_)); cbv))
      all_goals first
        | (have hlt := hki (by assumption)
           have hwi : IntKind.i64.wrap (i + 1) = i + 1 := wrap_in (by omega)
           rw [hwi] at hz
           have hl3 := colsG_len (.mk op' m' ⟨vk', vn', vs'⟩ ar') (g2, L2)
           rw [hc3] at hl3
           have hl3' : L3.length ≤ L2.length + (Ex.mk op' m' ⟨vk', vn', vs'⟩ ar').sz := hl3
           rw [hdr _ hx, szL] at hsz2
           rw [hdr _ hx, colsGL, hc3] at hcg2
           exact hR (i + 1, g3, L3, n3, C3) _ ⟨⟨by show 0 ≤ i + 1; omega, by show i + 1 ≤ zl; omega⟩, hC3, hn3, by show L3.length + szL (ar.drop (i + 1).toNat) ≤ 1000000; omega, hcg2⟩ (by show (zl - (i + 1)).toNat < (zl - i).toNat; omega) ⟨hz ▸ rfl, trivial⟩ ⟨rfl, rfl, rfl, rfl, trivial⟩ rfl)
        | (have hge : ar.length ≤ i.toNat := by
             have : decide (i < zl) = false := by assumption
             simp only [decide_eq_false_iff_not] at this
             omega
           rw [List.drop_eq_nil_of_le hge, colsGL] at hcg2
           simp only [Prod.mk.injEq] at hcg2
           obtain ⟨q1, q2⟩ := hcg2
           refine hQ _ _ ⟨rfl, ?_⟩
           rw [← hn', ← hC', ← q1, ← q2, hC2, hn2]
           rfl)
    · exact (hno (by assumption) (by assumption) (by assumption) (by assumption)).elim
    · exact (hno (by assumption) (by assumption) (by assumption) (by assumption)).elim
  · have hop : ¬ op = 1 := by simpa using (show decide (op = 1) = false by assumption)
    rw [if_neg hop] at hq
    have hcg := hq
    have hC1 := hC
    have hn1 := hn
    have hsz1 : L.length + szL (ar.drop 0) ≤ 1000000 := by rw [List.drop_zero]; omega
    all_goals (try simp only [nc] at hz)
    all_goals (try simp only [nc'] at hz)
    have hzl : z.toNat = ar.length ∧ 0 ≤ z := by omega
    obtain ⟨hzl, hzl0⟩ := hzl
    clear hz
    generalize z = zl at *
    refine loopT (ι := Int × Nat × List Int × Nat × List (List PV)) mixed tt_ok hcp hcc hlp [1, 2, 50, 51] (fun p => [(52, .p (.int .i64 p.1))]) (fun p => [.cells [.vec 2 p.2.1 1 0 p.2.2.2.1], .cells [.fn 40 [.ref 0 0, .ref 1 0]], .vec p.2.1 p.2.2.2.2 1, .cells [.p (.int .i64 op), .p (.int .i64 m), .p (.int .i64 vk), .p (.int .i64 vn), .p (.str vs), .p (.sl es)]])
      (fun p => (0 ≤ p.1 ∧ p.1 ≤ zl) ∧ p.2.2.1.map i64c = p.2.2.2.2 ∧ p.2.2.2.2.length = p.2.2.2.1 ∧ p.2.2.1.length + szL (ar.drop p.1.toNat) ≤ 1000000 ∧ colsGL (ar.drop p.1.toNat) (p.2.1, p.2.2.1) = (g', L')) (fun p => (zl - p.1).toNat) (0, _, _, _, _) 4 (fun _ => rfl) ⟨⟨by show (0 : Int) ≤ 0; omega, by show (0 : Int) ≤ zl; omega⟩, hC1, hn1, hsz1, hcg⟩ ⟨rfl, trivial⟩ rfl ?_
    rintro R ⟨i, g2, L2, n2, C2⟩ ⟨⟨hi0, hi1⟩, hC2, hn2, hsz2, hcg2⟩ hR
    replace hi0 : 0 ≤ i := hi0
    replace hi1 : i ≤ zl := hi1
    replace hC2 : L2.map i64c = C2 := hC2
    replace hn2 : C2.length = n2 := hn2
    replace hsz2 : L2.length + szL (ar.drop i.toNat) ≤ 1000000 := hsz2
    replace hcg2 : colsGL (ar.drop i.toNat) (g2, L2) = (g', L') := hcg2
    have hk : decide (i < zl) = true → i < ar.length := by simp only [decide_eq_true_eq]; omega
    have hki : decide (i < zl) = true → i + 1 ≤ zl ∧ i < 9223372036854775806 := by simp only [decide_eq_true_eq]; omega
    have hdr : ∀ x, ar[i.toNat]? = some x → ar.drop i.toNat = x :: ar.drop (i + 1).toNat := by
      intro x hx
      rw [List.drop_eq_getElem_cons (List.getElem?_eq_some_iff.1 hx).1, (List.getElem?_eq_some_iff.1 hx).2, show (i + 1).toNat = i.toNat + 1 by omega]
    have hpc : ∀ (op' m' vk' vn' : Int) (vs' : ByteArray) (ar' : List Ex) (es' : List (List PV)), ar[i.toNat]? = some (.mk op' m' ⟨vk', vn', vs'⟩ ar') → ar'.map Ex.cells = es' → ∃ g3 L3 n3 C3, colsG (.mk op' m' ⟨vk', vn', vs'⟩ ar') (g2, L2) = (g3, L3) ∧ L3.map i64c = C3 ∧ C3.length = n3 ∧
        ACall Tryz.prog 40 [.p (.agg [.int .i64 op', .int .i64 m', .int .i64 vk', .int .i64 vn', .str vs', .sl es']), .ref 0 0, .ref 1 0] (colH g2 n2 C2) fun r H' => r = .tup [] ∧ takeX H' 3 = colH g3 n3 C3 := by
      intro op' m' vk' vn' vs' ar' es' hx he
      have hb : L2.length + (Ex.mk op' m' ⟨vk', vn', vs'⟩ ar').sz ≤ 1000000 := by
        rw [hdr _ hx, szL] at hsz2; omega
      exact IH _ (List.mem_of_getElem? hx) _ g2 L2 n2 C2 (by rw [cells_mk, he]) hC2 hn2 hb
    repeat' (first
      | (with_reducible refine Nm.mk ?_; intro z hz)
      | (with_reducible refine IfB.mk ?_ ?_ <;> (intro h; cases h))
      | (with_reducible refine Two.l ?_; refine Asm.mk ?_ ?_; focus (decide +kernel))
      | (with_reducible refine Two.r ?_)
      | (with_reducible refine Asm.mk ?_ ?_; focus (show (_ : Bool) = true; kernel_rfl))
      | (with_reducible refine Ix.ex hes hi0 (hk (by assumption)) ?_; intro op' m' vk' vn' vs' ar' es' hx hes')
      | (with_reducible refine isCC hcc ?_; obtain ⟨g3, L3, n3, C3, hc3, hC3, hn3, hcall⟩ := hpc _ _ _ _ _ _ _ hx hes'; refine frameK (H1 := colH g3 n3 C3) hcc [0, 1, 2] hcall rfl rfl rfl rfl rfl rfl rfl ?_)
      | (with_reducible refine Asm.mk2 ?_ ?_)
      | ((fail_if_success (with_reducible first | refine hQ _ _ ?_ | refine Side.mk ?_ | refine isCP hcp ?_ | refine isCC hcc ?_ | refine isLP hlp ?_ | refine Ix.mk ?_ | refine SIx.mk ?_ | refine SEx.mk ?_ | refine EIx.mk ?_ | refine RIx.mk ?_ | show False | refine hR ?_ _ ?_ ?_ ?_ ?_ ?_ | refine hR2 ?_ _ ?_ ?_ ?_ ?_ ?_)); cbv))
    all_goals first
      | (have hlt := hki (by assumption)
         have hwi : IntKind.i64.wrap (i + 1) = i + 1 := wrap_in (by omega)
         rw [hwi] at hz
         have hl3 := colsG_len (.mk op' m' ⟨vk', vn', vs'⟩ ar') (g2, L2)
         rw [hc3] at hl3
         have hl3' : L3.length ≤ L2.length + (Ex.mk op' m' ⟨vk', vn', vs'⟩ ar').sz := hl3
         rw [hdr _ hx, szL] at hsz2
         rw [hdr _ hx, colsGL, hc3] at hcg2
         exact hR (i + 1, g3, L3, n3, C3) _ ⟨⟨by show 0 ≤ i + 1; omega, by show i + 1 ≤ zl; omega⟩, hC3, hn3, by show L3.length + szL (ar.drop (i + 1).toNat) ≤ 1000000; omega, hcg2⟩ (by show (zl - (i + 1)).toNat < (zl - i).toNat; omega) ⟨hz ▸ rfl, trivial⟩ ⟨rfl, rfl, rfl, rfl, trivial⟩ rfl)
      | (have hge : ar.length ≤ i.toNat := by
           have : decide (i < zl) = false := by assumption
           simp only [decide_eq_false_iff_not] at this
           omega
         rw [List.drop_eq_nil_of_le hge, colsGL] at hcg2
         simp only [Prod.mk.injEq] at hcg2
         obtain ⟨q1, q2⟩ := hcg2
         refine hQ _ _ ⟨rfl, ?_⟩
         rw [← hn', ← hC', ← q1, ← q2, hC2, hn2]
         rfl)
end Go.Proofs.YtnhmnfokbinplaaGreat

namespace Go.Proofs.YtnhmnfokbinplaaGreat
open Go Go.RowKit
set_option maxRecDepth 100000
set_option linter.unusedSimpArgs false
set_option linter.unusedVariables false

theorem col_all : ∀ (m : Nat) (e : Ex), e.sz ≤ m → e.wide → ColC e
  | 0, .mk op m v ar, h, _ => by simp [Ex.sz] at h
  | k + 1, .mk op m ⟨vk, vn, vs⟩ ar, h, hw => by
    intro cells g L n C he hC hn hsz
    rw [cells_mk] at he
    subst he
    have hwi : wideN ar.length ∧ wideL ar := by rw [Ex.wide] at hw; exact hw
    have hwn : wideN ar.length := hwi.1
    unfold wideN at hwn
    refine ⟨_, _, _, _, rfl, rfl, rfl, col_c op m vk vn vs ar _ rfl (by omega) (fun x hx => col_all k x ?_ (wide_mem hwi.2 hx)) g L n C hC hn (by rw [Ex.sz] at hsz; exact hsz) _ _ _ _ rfl rfl rfl⟩
    have := sz_mem hx
    simp only [Ex.sz] at h; omega
mutual
theorem walk_count : ∀ (e : Ex) (d k h : Int), (walkE e d k h).1 = true → (walkE e d k h).2.1 = k + e.sz
  | .mk op m v ar, d, k, h, hw => by
    rw [walkE] at hw ⊢
    split at hw
    · cases hw
    · rename_i hb
      rw [if_neg hb, walkL_count ar _ _ _ hw, Ex.sz]
      omega
theorem walkL_count : ∀ (l : List Ex) (d k h : Int), (walkL l d k h).1 = true → (walkL l d k h).2.1 = k + szL l
  | [], d, k, h, _ => by simp [walkL, szL]
  | a :: r, d, k, h, hw => by
    have he := walk_count a d k h
    rw [walkL] at hw ⊢
    rcases hx : walkE a d k h with ⟨b, k', h'⟩
    rw [hx] at hw he
    cases b with
    | false => cases hw
    | true =>
      have he2 : k' = k + a.sz := he rfl
      dsimp only at hw ⊢
      rw [walkL_count r d k' h' hw, szL, he2]
      omega
end
theorem built_szK {e : Ex} (hb : builtM e = true) : e.sz ≤ 400 := by
  have hb2 : (sizeM e).1 ≤ 400 := of_decide_eq_true hb
  cases hw : (walkE e 1 0 0).1 with
  | true =>
    rw [sizeM, if_pos hw] at hb2
    have := walk_count e 1 0 0 hw
    have hb3 : (walkE e 1 0 0).2.1 ≤ 400 := hb2
    omega
  | false =>
    rw [sizeM, if_neg (by rw [hw]; decide)] at hb2
    exact absurd hb2 (by decide)
def colsKM (e : Ex) : List Int := if builtM e = true then colsE e [] else []
theorem rcolumns_c (op n vk vn : Int) (vs : ByteArray) (ar : List Ex) (es : List (List PV)) (hes : ar.map Ex.cells = es) (hw : (Ex.mk op n ⟨vk, vn, vs⟩ ar).wide) :
    PCall Tryz.prog 13 [.agg [.int .i64 op, .int .i64 n, .int .i64 vk, .int .i64 vn, .str vs, .sl es]] fun r => r = [.sl ((colsKM (.mk op n ⟨vk, vn, vs⟩ ar)).map i64c)] := by
  have hbc := rbuilt_c op n vk vn vs ar es hes hw
  obtain ⟨bt, hbt⟩ : ∃ b, builtM (.mk op n ⟨vk, vn, vs⟩ ar) = b := ⟨_, rfl⟩
  obtain ⟨g', L', n', C', hc, hC', hn', hcall⟩ : ∃ g' L' n' C', colsG (.mk op n ⟨vk, vn, vs⟩ ar) (0, []) = (g', L') ∧ L'.map i64c = C' ∧ C'.length = n' ∧ (bt = true → ACall Tryz.prog 40 [.p (.agg [.int .i64 op, .int .i64 n, .int .i64 vk, .int .i64 vn, .str vs, .sl es]), .ref 0 0, .ref 1 0] (colH 0 0 []) fun r H' => r = .tup [] ∧ takeX H' 3 = colH g' n' C') := by
    cases hb : bt with
    | false => exact ⟨_, _, _, _, rfl, rfl, rfl, fun h => by cases h⟩
    | true =>
      rw [hb] at hbt
      obtain ⟨g', L', n', C', h1, h2, h3, h4⟩ := col_all _ (.mk op n ⟨vk, vn, vs⟩ ar) (Nat.le_refl _) hw _ 0 [] 0 [] (by rw [cells_mk, hes]) rfl rfl (by have := built_szK hbt; simp; omega)
      exact ⟨g', L', n', C', h1, h2, h3, fun _ => h4⟩
  have hL' : colsE (.mk op n ⟨vk, vn, vs⟩ ar) [] = L' := by
    have := colsG_2 (.mk op n ⟨vk, vn, vs⟩ ar) (0, [])
    rw [hc] at this
    exact this.symm
  rw [colsKM, hbt, hL']
  rw [hbt] at hbc
  have hbn : ∀ {z : Bool}, bt = z → (!z) = false → bt = true := by rintro z rfl h; simpa using h
  have hbf : ∀ {z : Bool}, bt = z → (!z) = true → bt = false := by rintro z rfl h; simpa using h
  refine PCall.x (nt := 13) (res := [.tmp 2]) mixed tt_ok [] Tryz.func13 rfl rfl rfl c13 (Nat.le_of_ble_eq_true rfl) ?_
  intro cp cc lp Q' hcp hcc hlp hQ
  repeat' (first
    | (with_reducible refine Nm.mk ?_; intro z hz)
    | (with_reducible refine IfB.mk ?_ ?_ <;> (intro h; cases h))
    | (with_reducible refine Two.l ?_; refine Asm.mk ?_ ?_; focus (decide +kernel))
    | (with_reducible refine Two.r ?_)
    | (with_reducible refine Asm.mk ?_ ?_; focus kernel_rfl)
    | (with_reducible refine isCP hcp ?_; first | (refine bP hcp (hbc) ?_; intro z hz))
    | (with_reducible refine isCC hcc ?_; first | (refine bA hcc (hbc) rfl ?_; intro z hz))
    | (with_reducible refine isCC hcc ?_; refine mintCC hcc 1 1 0 rfl rfl ?_; refine frameK (H1 := colH g' n' C') hcc [1, 2, 3] (hcall (hbn (by assumption) (by assumption))) rfl rfl rfl rfl rfl rfl rfl ?_)
    | (with_reducible refine Asm.mk2 ?_ ?_)
    | ((fail_if_success (with_reducible first | refine hQ _ ?_ | refine Side.mk ?_ | refine isCP hcp ?_ | refine isCC hcc ?_ | refine isLP hlp ?_ | refine Ix.mk ?_ | refine SIx.mk ?_ | refine SEx.mk ?_ | refine EIx.mk ?_ | refine RIx.mk ?_ | show False | refine hR ?_ _ ?_ ?_ ?_ ?_ ?_ | refine hR2 ?_ _ ?_ ?_ ?_ ?_ ?_)); cbv))
  · refine hQ _ ?_
    rw [hbf (by assumption) (by assumption), if_neg (by decide)]; rfl
  · exact ⟨⟨rfl, by omega⟩⟩
  · have hbt2 := hbn (by assumption) (by assumption)
    refine hQ _ ?_
    rw [if_pos hbt2, hC', ← hz, List.drop_zero, List.take_of_length_le (by omega)]
end Go.Proofs.YtnhmnfokbinplaaGreat

namespace Go.Proofs.YtnhmnfokbinplaaGreat
open Go Go.RowKit
set_option maxRecDepth 100000
set_option linter.unusedSimpArgs false
set_option linter.unusedVariables false

theorem mem_insC {x c : Int} {L : List Int} (h : c ∈ L ∨ c = x) : c ∈ insC x L := by
  rw [insC]
  split
  · rename_i hx
    rcases h with h | h
    · exact h
    · rw [h]; exact List.mem_of_getElem? hx
  · rcases h with h | h
    · rw [← List.take_append_drop (insAt x L) L] at h
      rcases List.mem_append.1 h with h | h
      · exact List.mem_append_left _ h
      · exact List.mem_append_right _ (List.mem_cons_of_mem _ h)
    · rw [h]; exact List.mem_append_right _ (List.mem_cons_self)
mutual
theorem mem_colsE : ∀ (e : Ex) (L : List Int) (c : Int), c ∈ L ∨ c ∈ e.cols → c ∈ colsE e L
  | .mk op m v ar, L, c, h => by
    rw [colsE]
    rw [Ex.cols] at h
    by_cases h1 : op = 1
    · rw [if_pos h1] at h ⊢
      refine mem_colsL ar _ c ?_
      rcases h with h | h
      · exact .inl (mem_insC (.inl h))
      · rcases List.mem_append.1 h with h | h
        · exact .inl (mem_insC (.inr (by simpa using h)))
        · exact .inr h
    · rw [if_neg h1] at h ⊢
      refine mem_colsL ar _ c ?_
      rcases h with h | h
      · exact .inl h
      · exact .inr (by simpa using h)
theorem mem_colsL : ∀ (l : List Ex) (L : List Int) (c : Int), c ∈ L ∨ c ∈ colsOf l → c ∈ colsKL l L
  | [], L, c, h => by
    rcases h with h | h
    · exact h
    · simp [colsOf] at h
  | e :: r, L, c, h => by
    rw [colsKL]
    rw [colsOf] at h
    refine mem_colsL r _ c ?_
    rcases h with h | h
    · exact .inl (mem_colsE e L c (.inl h))
    · rcases List.mem_append.1 h with h | h
      · exact .inl (mem_colsE e L c (.inr h))
      · exact .inr h
end
def badK (l : List Int) : Bool := l.any fun k => !decide (k = 1) && !decide (k = 2)
def lostK (n : Nat) (l : List Int) : Bool := l.any fun c => decide ((n : Int) ≤ c)
def kindM (K : List Int) (e : Ex) : Int × Int :=
  if builtM e = false then (0, 1) else if badK K = true then (0, 1) else if lostK K.length (colsE e []) = true then (0, 1) else if (kindE K e).2 = false then (0, 4) else ((kindE K e).1, 0)
theorem kind_fine {K : List Int} {e : Ex} (hb : builtM e = true) (hl : lostK K.length (colsE e []) = false) : e.fine K.length := by
  refine built_fine hb fun c hc => ?_
  have hm := mem_colsE e [] c (.inr hc)
  have := List.any_eq_false.1 hl c hm
  simpa using this

set_option maxHeartbeats 2000000 in
theorem rkind_c (K : List Int) (C : List (List PV)) (hC : K.map i64c = C) (op n vk vn : Int) (vs : ByteArray) (ar : List Ex) (es : List (List PV)) (hes : ar.map Ex.cells = es) (hw : (Ex.mk op n ⟨vk, vn, vs⟩ ar).wide) :
    PCall Tryz.prog 7 [.agg [.int .i64 op, .int .i64 n, .int .i64 vk, .int .i64 vn, .str vs, .sl es], .sl C] fun r => r = [.int .i64 (kindM K (.mk op n ⟨vk, vn, vs⟩ ar)).1, .int .i64 (kindM K (.mk op n ⟨vk, vn, vs⟩ ar)).2] := by
  refine PCall.know c7 fun hkn => ?_
  have k1 : C.length ≤ maxLen := hkn (.sl C) (by simp)
  clear hkn
  rw [maxLen_eq] at k1
  have b1 : C.length = K.length := by rw [← hC]; simp
  have hbc := rbuilt_c op n vk vn vs ar es hes hw
  have hcc0 := rcolumns_c op n vk vn vs ar es hes hw
  obtain ⟨e, he⟩ : ∃ e, Ex.mk op n ⟨vk, vn, vs⟩ ar = e := ⟨_, rfl⟩
  have hkc : builtM e = true → lostK K.length (colsE e []) = false → ∃ k b, kindE K e = (k, b) ∧ PCall Tryz.prog 32 [.agg [.int .i64 op, .int .i64 n, .int .i64 vk, .int .i64 vn, .str vs, .sl es], .sl C] fun r => r = [.int .i64 k, .bool b] := by
    intro h1 h2
    exact kind_all K _ e (Nat.le_refl _) (kind_fine h1 h2) _ C (by rw [← he, cells_mk, hes]) hC
  rw [he] at hbc hcc0 ⊢
  obtain ⟨kr, er, hkr⟩ : ∃ a b, kindM K e = (a, b) := ⟨_, _, rfl⟩
  rw [hkr]
  obtain ⟨bt, hbt⟩ : ∃ b, builtM e = b := ⟨_, rfl⟩
  rw [hbt] at hbc
  obtain ⟨cl, hcl⟩ : ∃ l, colsKM e = l := ⟨_, rfl⟩
  rw [hcl] at hcc0
  have hcle : bt = true → colsE e [] = cl := by intro h; rw [← hcl, colsKM, hbt, if_pos h]
  rw [kindM, hbt] at hkr
  have hbn : ∀ {z : Bool}, bt = z → (!z) = false → bt = true := by rintro z rfl h; simpa using h
  have hbf : ∀ {z : Bool}, bt = z → (!z) = true → bt = false := by rintro z rfl h; simpa using h
  refine PCall.x (nt := 49) (res := [.tmp 4, .tmp 5]) mixed tt_ok [] Tryz.func7 rfl rfl rfl c7 (Nat.le_of_ble_eq_true rfl) ?_
  intro cp cc lp Q' hcp hcc hlp hQ
  repeat' (first
    | (with_reducible refine Nm.mk ?_; intro z hz)
    | (with_reducible refine IfB.mk ?_ ?_ <;> (intro h; cases h))
    | (with_reducible refine Two.l ?_; refine Asm.mk ?_ ?_; focus (decide +kernel))
    | (with_reducible refine Two.r ?_)
    | (with_reducible refine Asm.mk ?_ ?_; focus kernel_rfl)
    | (with_reducible refine isCP hcp ?_; first | (refine bP hcp (hbc) ?_; intro z hz))
    | (with_reducible refine isCC hcc ?_; first | (refine bA hcc (hbc) rfl ?_; intro z hz))
    | (with_reducible refine Asm.mk2 ?_ ?_)
    | ((fail_if_success (with_reducible first | refine hQ _ ?_ | refine Side.mk ?_ | refine isCP hcp ?_ | refine isCC hcc ?_ | refine isLP hlp ?_ | refine Ix.mk ?_ | refine SIx.mk ?_ | refine SEx.mk ?_ | refine EIx.mk ?_ | refine RIx.mk ?_ | show False | refine hR ?_ _ ?_ ?_ ?_ ?_ ?_ | refine hR2 ?_ _ ?_ ?_ ?_ ?_ ?_)); cbv))
  · have hb := hbf (by assumption) (by assumption)
    rw [if_pos hb] at hkr
    simp only [Prod.mk.injEq] at hkr
    refine hQ _ ?_
    rw [← hkr.1, ← hkr.2]
  · have hb := hbn (by assumption) (by assumption)
    rw [if_neg (by rw [hb]; decide)] at hkr
    have hL := hcle hb
    have hclen : cl.length ≤ 400 := by
      have h1 := colsG_len e (0, [])
      rw [colsG_2] at h1
      have h2 := built_szK (e := e) (by rw [hbt]; exact hb)
      rw [← hL]
      have h3 : (colsE e []).length ≤ 0 + e.sz := h1
      omega
    rw [hL] at hkr
    have hkc2 := hkc (by rw [hbt]; exact hb)
    rw [hL] at hkc2
    clear hbn hbf hbc hcle
    simp only [nc] at hz
    simp only [nc'] at hz
    have hzl : z.toNat = K.length ∧ 0 ≤ z ∧ z ≤ 9223372036854775807 := by omega
    obtain ⟨hzl, hzl0, hzl1⟩ := hzl
    clear hz
    generalize z = zl at *
    obtain ⟨q, hq⟩ : ∃ q, badK K = q := ⟨_, rfl⟩
    rw [hq] at hkr
    refine loopK (ι := Int) mixed tt_ok hcp hcc hlp [1, 2, 15, 16] (fun i => [(17, .p (.int .i64 i))]) (fun i => (0 ≤ i ∧ i ≤ zl) ∧ badK (K.drop i.toNat) = q) (fun i => (zl - i).toNat) 0 (fun _ => rfl) ⟨⟨by omega, by omega⟩, hq⟩ ⟨rfl, trivial⟩ ?_
    rintro R i ⟨⟨hi0, hi1⟩, hf⟩ hR
    have hk : decide (i < zl) = true → i < K.length := by simp only [decide_eq_true_eq]; omega
    have hki : decide (i < zl) = true → IntKind.i64.wrap (i + 1) = i + 1 ∧ i + 1 ≤ zl ∧ (zl - (i + 1)).toNat < (zl - i).toNat := by simp only [decide_eq_true_eq]; intro h; exact ⟨wrap_in (by omega), by omega, by omega⟩
    have hdr : ∀ x, K[i.toNat]? = some x → K.drop i.toNat = x :: K.drop (i + 1).toNat := by
      intro x hx
      rw [List.drop_eq_getElem_cons (List.getElem?_eq_some_iff.1 hx).1, (List.getElem?_eq_some_iff.1 hx).2, show (i + 1).toNat = i.toNat + 1 by omega]
    have hbad : ∀ {x : Int}, K[i.toNat]? = some x → (!decide (x = 1)) = true → (!decide (x = 2)) = true → q = true := by
      intro x hx h1 h2
      rw [← hf, hdr x hx, badK, List.any_cons, h1, h2]; rfl
    have hgood : ∀ {x : Int}, K[i.toNat]? = some x → ((!decide (x = 1)) = false ∨ (!decide (x = 2)) = false) → badK (K.drop (i + 1).toNat) = q := by
      intro x hx h
      rw [← hf, hdr x hx, badK, badK, List.any_cons]
      rcases h with h | h <;> rw [h] <;> simp
    have hout : decide (i < zl) = false → q = false := by
      simp only [decide_eq_false_iff_not]; intro h
      rw [← hf, List.drop_eq_nil_of_le (by omega)]; rfl
    repeat' (first
      | (with_reducible refine Nm.mk ?_; intro z hz)
      | (with_reducible refine IfB.mk ?_ ?_ <;> (intro h; cases h))
      | (with_reducible refine Two.l ?_; refine Asm.mk ?_ ?_; focus (decide +kernel))
      | (with_reducible refine Two.r ?_)
      | (with_reducible refine Asm.mk ?_ ?_; focus kernel_rfl)
      | (with_reducible refine isCP hcp ?_; first | (refine lP hcp (hcc0) ?_; intro z hz))
      | (with_reducible refine isCC hcc ?_; first | (refine lA hcc (hcc0) rfl ?_; intro z hz))
      | (with_reducible refine Ix.map hC i64c_len (by decide) hi0 (hk (by assumption)) ?_; intro x hx)
      | (with_reducible refine Asm.mk2 ?_ ?_)
      | ((fail_if_success (with_reducible first | refine hQ _ ?_ | refine Side.mk ?_ | refine isCP hcp ?_ | refine isCC hcc ?_ | refine isLP hlp ?_ | refine Ix.mk ?_ | refine SIx.mk ?_ | refine SEx.mk ?_ | refine EIx.mk ?_ | refine RIx.mk ?_ | show False | refine hR ?_ _ ?_ ?_ ?_ ?_ ?_ | refine hR2 ?_ _ ?_ ?_ ?_ ?_ ?_)); cbv))
    · rw [hbad hx (by assumption) (by assumption), if_pos rfl] at hkr
      simp only [Prod.mk.injEq] at hkr
      refine hQ _ ?_
      rw [← hkr.1, ← hkr.2]
    · obtain ⟨e1, e2, e3⟩ := hki (by assumption)
      rw [e1] at hz
      exact hR (i + 1) _ ⟨⟨by omega, e2⟩, hgood hx (.inr (by assumption))⟩ e3 ⟨hz ▸ rfl, trivial⟩ ⟨rfl, rfl, rfl, rfl, trivial⟩ rfl
    · obtain ⟨e1, e2, e3⟩ := hki (by assumption)
      rw [e1] at hz
      exact hR (i + 1) _ ⟨⟨by omega, e2⟩, hgood hx (.inl (by assumption))⟩ e3 ⟨hz ▸ rfl, trivial⟩ ⟨rfl, rfl, rfl, rfl, trivial⟩ rfl
    · rename_i D hD
      have hqf := hout (by assumption)
      rw [hqf, if_neg (by decide)] at hkr
      clear hbad hgood hout hki hk hdr hR hf
      have hDl : D.length = cl.length := by rw [← hD]; simp
      simp only [nc] at hz
      simp only [nc'] at hz
      have hyl : z.toNat = cl.length ∧ 0 ≤ z := by omega
      obtain ⟨hyl, hyl0⟩ := hyl
      clear hz
      generalize z = yl at *
      obtain ⟨q2, hq2⟩ : ∃ q, lostK K.length cl = q := ⟨_, rfl⟩
      rw [hq2] at hkr hkc2
      have hcb : yl ≤ 400 := by omega
      refine loopK (ι := Int) mixed tt_ok hcp hcc hlp [1, 2, 29, 30] (fun j => [(31, .p (.int .i64 j))]) (fun j => (0 ≤ j ∧ j ≤ yl) ∧ lostK K.length (cl.drop j.toNat) = q2) (fun j => (yl - j).toNat) 0 (fun _ => rfl) ⟨⟨by omega, by omega⟩, hq2⟩ ⟨rfl, trivial⟩ ?_
      rintro R j ⟨⟨hj0, hj1⟩, hf⟩ hR
      have hk : decide (j < yl) = true → j < cl.length := by simp only [decide_eq_true_eq]; omega
      have hki : decide (j < yl) = true → IntKind.i64.wrap (j + 1) = j + 1 ∧ j + 1 ≤ yl ∧ (yl - (j + 1)).toNat < (yl - j).toNat := by simp only [decide_eq_true_eq]; intro h; exact ⟨wrap_in (by omega), by omega, by omega⟩
      have hdr : ∀ x, cl[j.toNat]? = some x → cl.drop j.toNat = x :: cl.drop (j + 1).toNat := by
        intro x hx
        rw [List.drop_eq_getElem_cons (List.getElem?_eq_some_iff.1 hx).1, (List.getElem?_eq_some_iff.1 hx).2, show (j + 1).toNat = j.toNat + 1 by omega]
      have hbad : ∀ {x w : Int}, cl[j.toNat]? = some x → decide (w ≤ x) = true → (C.length : Int) = w → q2 = true := by
        intro x w hx h1 h2
        rw [← hf, hdr x hx, lostK, List.any_cons, ← b1, h2, h1]; rfl
      have hgood : ∀ {x w : Int}, cl[j.toNat]? = some x → decide (w ≤ x) = false → (C.length : Int) = w → lostK K.length (cl.drop (j + 1).toNat) = q2 := by
        intro x w hx h1 h2
        rw [← hf, hdr x hx, lostK, lostK, List.any_cons, ← b1, h2, h1]; simp
      have hout : decide (j < yl) = false → q2 = false := by
        simp only [decide_eq_false_iff_not]; intro h
        rw [← hf, List.drop_eq_nil_of_le (by omega)]; rfl
      repeat' (first
        | (with_reducible refine Nm.mk ?_; intro z hz)
        | (with_reducible refine IfB.mk ?_ ?_ <;> (intro h; cases h))
        | (with_reducible refine Two.l ?_; refine Asm.mk ?_ ?_; focus (decide +kernel))
        | (with_reducible refine Two.r ?_)
        | (with_reducible refine Asm.mk ?_ ?_; focus kernel_rfl)
        | (with_reducible refine Ix.map hD i64c_len (by decide) hj0 (hk (by assumption)) ?_; intro x hx)
        | (with_reducible refine isCC hcc ?_; obtain ⟨k2, b2, hk2, hcall⟩ := hkc2 (hout (by assumption)); refine xA hcc hcall rfl ?_)
        | (with_reducible refine Asm.mk2 ?_ ?_)
        | ((fail_if_success (with_reducible first | refine hQ _ ?_ | refine Side.mk ?_ | refine isCP hcp ?_ | refine isCC hcc ?_ | refine isLP hlp ?_ | refine Ix.mk ?_ | refine SIx.mk ?_ | refine SEx.mk ?_ | refine EIx.mk ?_ | refine RIx.mk ?_ | show False | refine hR ?_ _ ?_ ?_ ?_ ?_ ?_ | refine hR2 ?_ _ ?_ ?_ ?_ ?_ ?_)); cbv))
      · rw [hbad hx (by assumption) (by assumption), if_pos rfl] at hkr
        simp only [Prod.mk.injEq] at hkr
        refine hQ _ ?_
        rw [← hkr.1, ← hkr.2]
      · obtain ⟨e1, e2, e3⟩ := hki (by assumption)
        rw [e1] at hz
        exact hR (j + 1) _ ⟨⟨by omega, e2⟩, hgood hx (by assumption) (by assumption)⟩ e3 ⟨hz ▸ rfl, trivial⟩ ⟨rfl, rfl, rfl, rfl, trivial⟩ rfl
      · have hb2 : b2 = false := by simpa using hz
        rw [hout (by assumption), if_neg (by decide), hk2, hb2, if_pos rfl] at hkr
        simp only [Prod.mk.injEq] at hkr
        refine hQ _ ?_
        rw [← hkr.1, ← hkr.2]
      · have hb2 : b2 = true := by simpa using hz
        rw [hout (by assumption), if_neg (by decide), hk2, hb2, if_neg (fun h => by cases h)] at hkr
        simp only [Prod.mk.injEq] at hkr
        refine hQ _ ?_
        rw [← hkr.1, ← hkr.2]
end Go.Proofs.YtnhmnfokbinplaaGreat

namespace Go.Proofs.YtnhmnfokbinplaaGreat
open Go Go.RowKit
set_option maxRecDepth 100000
set_option linter.unusedSimpArgs false
set_option linter.unusedVariables false

def colS (g n : Nat) (C : List (List PV)) : List AObj := [.cells [.vec 1 g 1 0 n], .vec g C 1]
def post1 (op m : Int) (L : List Int) : List Int := if op = 1 then L ++ [m] else L
theorem okEs_i64c (l : List Int) : okEs 1 (l.map i64c) = true := by
  simp only [okEs, List.all_map, List.all_eq_true]
  intro e _
  simp [i64c, PV.one]
theorem one_s (op m vk vn : Int) (vs : ByteArray) (es : List (List PV)) (g n : Nat) (L : List Int) (C : List (List PV)) (hC : L.map i64c = C) (hn : C.length = n) (hsz : n ≤ 1000000)
    (g' n' : Nat) (C' : List (List PV)) (hC' : (post1 op m L).map i64c = C') (hn' : C'.length = n') (hg' : g + (if op = 1 then 1 else 0) = g') : ACall Tryz.prog 37 [.p (.agg [.int .i64 op, .int .i64 m, .int .i64 vk, .int .i64 vn, .str vs, .sl es]), .ref 0 0] (colS g n C) fun r H' => r = .tup [] ∧ takeX H' 2 = colS g' n' C' := by
  by_cases hop : op = 1
  · rw [if_pos hop] at hg'
    have hC2 : C ++ [[.int .i64 m]] = C' := by rw [← hC', post1, if_pos hop, List.map_append, hC]; rfl
    have hok : okEs 1 (C.take n) = true := by rw [← hn, List.take_length, ← hC]; exact okEs_i64c _
    have sd : n + 1 ≤ maxLen ∧ (n + 1) * 8 ≤ 140737488355328 := by rw [maxLen_eq]; omega
    refine ACall.x (nt := 11) (res := []) mixed tt_ok [] Tryz.func37 rfl rfl rfl c37 (Nat.le_of_ble_eq_true rfl) ?_
    intro cp cc lp Q' hcp hcc hlp hQ
    repeat' (first
      | (with_reducible refine Nm.mk ?_; intro z hz)
      | (with_reducible refine IfB.mk ?_ ?_ <;> (intro h; cases h))
      | (with_reducible refine Two.l ?_; refine Asm.mk ?_ ?_; focus (decide +kernel))
      | (with_reducible refine Two.r ?_)
      | (with_reducible refine Asm.mk ?_ ?_; focus (first | kernel_rfl | decide))
      | (with_reducible refine Asm.mk2 ?_ ?_)
      | ((fail_if_success (with_reducible first | refine hQ _ _ ?_ | refine Side.mk ?_ | refine isCP hcp ?_ | refine isCC hcc ?_ | refine isLP hlp ?_ | refine Ix.mk ?_ | refine SIx.mk ?_ | refine SEx.mk ?_ | refine EIx.mk ?_ | refine RIx.mk ?_ | show False | refine hR ?_ _ ?_ ?_ ?_ ?_ ?_ | refine hR2 ?_ _ ?_ ?_ ?_ ?_ ?_)); cbv))
    · exact Side.mk ⟨rfl, rfl, rfl, by omega, hok, rfl, sd.1, sd.2⟩
    · rename_i g2 hg2 n2 hn2
      have e3 : z = C' := by rw [← hz, ← hC2, ← hn, List.take_length]
      have e2 : n2 = n' := by
        rw [← hn', ← hC2, ← hn2, List.length_append, ← hn]
      have e1 : g2 = g' := by omega
      subst e1 e2 e3
      exact hQ _ _ ⟨rfl, rfl⟩
    · exact absurd hop (by simpa using hz)
  · rw [if_neg hop] at hg'
    have hp : post1 op m L = L := by rw [post1, if_neg hop]
    rw [hp, hC] at hC'
    subst hC'
    rw [hn] at hn'
    subst hn'
    have hg2 : g = g' := by omega
    subst hg2
    clear hg' hp
    refine ACall.x (nt := 11) (res := []) mixed tt_ok [] Tryz.func37 rfl rfl rfl c37 (Nat.le_of_ble_eq_true rfl) ?_
    intro cp cc lp Q' hcp hcc hlp hQ
    repeat' (first
      | (with_reducible refine Nm.mk ?_; intro z hz)
      | (with_reducible refine IfB.mk ?_ ?_ <;> (intro h; cases h))
      | (with_reducible refine Two.l ?_; refine Asm.mk ?_ ?_; focus (decide +kernel))
      | (with_reducible refine Two.r ?_)
      | (with_reducible refine Asm.mk ?_ ?_; focus (first | kernel_rfl | decide))
      | (with_reducible refine Asm.mk2 ?_ ?_)
      | ((fail_if_success (with_reducible first | refine hQ _ _ ?_ | refine Side.mk ?_ | refine isCP hcp ?_ | refine isCC hcc ?_ | refine isLP hlp ?_ | refine Ix.mk ?_ | refine SIx.mk ?_ | refine SEx.mk ?_ | refine EIx.mk ?_ | refine RIx.mk ?_ | show False | refine hR ?_ _ ?_ ?_ ?_ ?_ ?_ | refine hR2 ?_ _ ?_ ?_ ?_ ?_ ?_)); cbv))
    · exact absurd (of_decide_eq_true (by assumption)) hop
    · exact absurd (of_decide_eq_true (by assumption)) hop
    · exact hQ _ _ ⟨rfl, rfl⟩

def EachS (e : Ex) : Prop := ∀ (cells : List PV) (g n : Nat) (L : List Int) (C : List (List PV)), e.cells = cells → L.map i64c = C → C.length = n → n + e.sz ≤ 1000000 →
  ∀ (g' n' : Nat) (C' : List (List PV)), (L ++ colsM e).map i64c = C' → C'.length = n' → g + (colsM e).length = g' → ACall Tryz.prog 26 [.p (.agg cells), .fn 37 [.ref 0 0]] (colS g n C) fun r H' => r = .tup [] ∧ takeX H' 2 = colS g' n' C'
set_option maxHeartbeats 2000000 in
theorem each_s (op m vk vn : Int) (vs : ByteArray) (ar : List Ex) (es : List (List PV)) (hes : ar.map Ex.cells = es) (hal : ar.length ≤ 140737488355328) (IH : ∀ x, x ∈ ar → EachS x) (g n : Nat) (L : List Int) (C : List (List PV)) (hC : L.map i64c = C) (hn : C.length = n) (hsz : n + (szL ar + 1) ≤ 1000000)
    (g' n' : Nat) (C' : List (List PV)) (hC' : (L ++ colsM (.mk op m ⟨vk, vn, vs⟩ ar)).map i64c = C') (hn' : C'.length = n') (hg' : g + (colsM (.mk op m ⟨vk, vn, vs⟩ ar)).length = g') : ACall Tryz.prog 26 [.p (.agg [.int .i64 op, .int .i64 m, .int .i64 vk, .int .i64 vn, .str vs, .sl es]), .fn 37 [.ref 0 0]] (colS g n C) fun r H' => r = .tup [] ∧ takeX H' 2 = colS g' n' C' := by
  have hel : es.length = ar.length := by rw [← hes]; simp
  have hLn : L.length = n := by rw [← hn, ← hC]; simp
  rw [colsM] at hC' hg'
  have hpl := cols_szL ar
  refine ACall.x (nt := 20) (res := []) mixed tt_ok [] Tryz.func26 rfl rfl rfl c26 (Nat.le_of_ble_eq_true rfl) ?_
  intro cp cc lp Q' hcp hcc hlp hQ
  repeat' (first
    | (with_reducible refine Nm.mk ?_; intro z hz)
    | (with_reducible refine IfB.mk ?_ ?_ <;> (intro h; cases h))
    | (with_reducible refine Two.l ?_; refine Asm.mk ?_ ?_; focus (decide +kernel))
    | (with_reducible refine Two.r ?_)
    | (with_reducible refine Asm.mk ?_ ?_; focus (first | kernel_rfl | decide))
    | (with_reducible refine Asm.mk2 ?_ ?_)
    | ((fail_if_success (with_reducible first | refine hQ _ _ ?_ | refine Side.mk ?_ | refine isCP hcp ?_ | refine isCC hcc ?_ | refine isLP hlp ?_ | refine Ix.mk ?_ | refine SIx.mk ?_ | refine SEx.mk ?_ | refine EIx.mk ?_ | refine RIx.mk ?_ | show False | refine hR ?_ _ ?_ ?_ ?_ ?_ ?_ | refine hR2 ?_ _ ?_ ?_ ?_ ?_ ?_)); cbv))
  simp only [nc] at hz
  simp only [nc'] at hz
  have hzl := lenZ (n := ar.length) hel hz
  clear hz
  generalize z = zl at *
  refine loopT (ι := Int × Nat × Nat × List (List PV) × List Int) mixed tt_ok hcp hcc hlp [1, 2, 7, 8] (fun p => [(9, .p (.int .i64 p.1))]) (fun p => [.cells [.vec 1 p.2.1 1 0 p.2.2.1], .vec p.2.1 p.2.2.2.1 1, .cells [.p (.int .i64 op), .p (.int .i64 m), .p (.int .i64 vk), .p (.int .i64 vn), .p (.str vs), .p (.sl es)]])
    (fun p => Rng ar.length zl p.1 ∧ p.2.2.2.2.map i64c = p.2.2.2.1 ∧ p.2.2.2.1.length = p.2.2.1 ∧ p.2.2.2.2 ++ colsL (ar.drop p.1.toNat) = L ++ colsL ar ∧ p.2.1 + (colsL (ar.drop p.1.toNat)).length = g + (colsL ar).length ∧ p.2.2.1 + szL (ar.drop p.1.toNat) ≤ 999999) (fun p => (zl - p.1).toNat) (0, g, n, C, L) 3 (fun _ => rfl) ⟨Rng.start hzl (by omega), hC, hn, rfl, rfl, by show n + szL ar ≤ 999999; omega⟩ ⟨rfl, trivial⟩ rfl ?_
  rintro R ⟨i, g1, n1, C1, L1⟩ ⟨rg, hC1, hn1, hL1, hg1, hs1⟩ hR
  replace rg : Rng ar.length zl i := rg
  replace hC1 : L1.map i64c = C1 := hC1
  replace hn1 : C1.length = n1 := hn1
  replace hL1 : L1 ++ colsL (ar.drop i.toNat) = L ++ colsL ar := hL1
  replace hg1 : g1 + (colsL (ar.drop i.toNat)).length = g + (colsL ar).length := hg1
  replace hs1 : n1 + szL (ar.drop i.toNat) ≤ 999999 := hs1
  have hLn1 : L1.length = n1 := by rw [← hn1, ← hC1]; simp
  have hpc : ∀ (op' m' vk' vn' : Int) (vs' : ByteArray) (ar' : List Ex) (es' : List (List PV)), ar[i.toNat]? = some (.mk op' m' ⟨vk', vn', vs'⟩ ar') → ar'.map Ex.cells = es' → ∃ g2 n2 C2 L2, (L1 ++ colsM (.mk op' m' ⟨vk', vn', vs'⟩ ar')) = L2 ∧ L2.map i64c = C2 ∧ C2.length = n2 ∧ g1 + (colsM (.mk op' m' ⟨vk', vn', vs'⟩ ar')).length = g2 ∧ n2 + szL (ar.drop (i + 1).toNat) ≤ 999999 ∧
      ACall Tryz.prog 26 [.p (.agg [.int .i64 op', .int .i64 m', .int .i64 vk', .int .i64 vn', .str vs', .sl es']), .fn 37 [.ref 0 0]] (colS g1 n1 C1) fun r H' => r = .tup [] ∧ takeX H' 2 = colS g2 n2 C2 := by
    intro op' m' vk' vn' vs' ar' es' hx he
    have hd := rg.step hx
    rw [hd, szL] at hs1
    refine ⟨_, _, _, _, rfl, rfl, rfl, rfl, ?_, IH _ (List.mem_of_getElem? hx) _ g1 n1 L1 C1 (by rw [cells_mk, he]) hC1 hn1 (by omega) _ _ _ rfl rfl rfl⟩
    have := cols_sz (.mk op' m' ⟨vk', vn', vs'⟩ ar')
    rw [List.length_map, List.length_append]; omega
  have hlast : decide (i < zl) = false → ACall Tryz.prog 37 [.p (.agg [.int .i64 op, .int .i64 m, .int .i64 vk, .int .i64 vn, .str vs, .sl es]), .ref 0 0] (colS g1 n1 C1) fun r H' => r = .tup [] ∧ takeX H' 2 = colS g' n' C' := by
    intro h
    have hd := rg.end_ rfl h
    rw [hd, colsL, List.append_nil] at hL1
    rw [hd] at hg1
    refine one_s op m vk vn vs es g1 n1 L1 C1 hC1 hn1 (by omega) g' n' C' ?_ hn' ?_
    · rw [← hC', post1, hL1, ← List.append_assoc]
      by_cases hop : op = 1
      · rw [if_pos hop, if_pos hop]
      · rw [if_neg hop, if_neg hop, List.append_nil]
    · rw [← hg', List.length_append]
      simp only [colsL, List.length_nil] at hg1
      by_cases hop : op = 1
      · rw [if_pos hop, if_pos hop]; simp; omega
      · rw [if_neg hop, if_neg hop]; simp; omega
  repeat' (first
    | (with_reducible refine Nm.mk ?_; intro z hz)
    | (with_reducible refine IfB.mk ?_ ?_ <;> (intro h; cases h))
    | (with_reducible refine Two.l ?_; refine Asm.mk ?_ ?_; focus (decide +kernel))
    | (with_reducible refine Two.r ?_)
    | (with_reducible refine Asm.mk ?_ ?_; focus (show (_ : Bool) = true; kernel_rfl))
    | (with_reducible refine Ix.ex hes rg.lo (rg.lt (by assumption)) ?_; intro op' m' vk' vn' vs' ar' es' hx hes')
    | (with_reducible refine isCC hcc ?_; obtain ⟨g2, n2, C2, L2, q1, q2, q3, q4, q5, hcall⟩ := hpc _ _ _ _ _ _ _ hx hes'; refine frameK (H1 := colS g2 n2 C2) hcc [0, 1] hcall rfl rfl rfl rfl rfl rfl rfl ?_)
    | (with_reducible refine isCC hcc ?_; refine frameK (H1 := colS g' n' C') hcc [0, 1] (hlast (by assumption)) rfl rfl rfl rfl rfl rfl rfl ?_)
    | (with_reducible refine Asm.mk2 ?_ ?_)
    | ((fail_if_success (with_reducible first | refine hQ _ _ ?_ | refine Side.mk ?_ | refine isCP hcp ?_ | refine isCC hcc ?_ | refine isLP hlp ?_ | refine Ix.mk ?_ | refine SIx.mk ?_ | refine SEx.mk ?_ | refine EIx.mk ?_ | refine RIx.mk ?_ | show False | refine hR ?_ _ ?_ ?_ ?_ ?_ ?_ | refine hR2 ?_ _ ?_ ?_ ?_ ?_ ?_)); cbv))
  · have hlt : decide (i < zl) = true := by assumption
    rw [rg.wrap hlt] at hz
    have hd := rg.step hx
    rw [hd, colsL] at hL1 hg1
    exact hR (i + 1, g2, n2, C2, L2) _ ⟨rg.next hlt, q2, q3, by show L2 ++ _ = _; rw [← q1, ← hL1, List.append_assoc], by show g2 + (colsL (ar.drop (i + 1).toNat)).length = _; rw [← hg1, ← q4, List.length_append]; omega, q5⟩ (rg.less hlt) ⟨hz ▸ rfl, trivial⟩ ⟨rfl, rfl, rfl, rfl, trivial⟩ rfl
  · exact hQ _ _ ⟨rfl, rfl⟩
theorem each_sall : ∀ (k : Nat) (e : Ex), e.sz ≤ k → e.wide → EachS e
  | 0, .mk op m v ar, h, _ => by simp [Ex.sz] at h
  | k + 1, .mk op m ⟨vk, vn, vs⟩ ar, h, hw => by
    intro cells g n L C he hC hn hsz g' n' C' h1 h2 h3
    rw [cells_mk] at he
    subst he
    have hwi : wideN ar.length ∧ wideL ar := by rw [Ex.wide] at hw; exact hw
    have hwn : wideN ar.length := hwi.1
    unfold wideN at hwn
    rw [Ex.sz] at hsz
    refine each_s op m vk vn vs ar _ rfl (by omega) (fun x hx => each_sall k x ?_ (wide_mem hwi.2 hx)) g n L C hC hn hsz g' n' C' h1 h2 h3
    have := sz_mem hx
    simp only [Ex.sz] at h; omega
end Go.Proofs.YtnhmnfokbinplaaGreat

namespace Go.Proofs.YtnhmnfokbinplaaGreat
open Go Go.RowKit
set_option maxRecDepth 100000
set_option linter.unusedSimpArgs false
set_option linter.unusedVariables false

/-- An argument told by its parts is the whole. -/
theorem ACall.head {P : Program} {f : FuncId} {x : AV} {y : PV} {args : List AV} {H : List AObj} {Q : AV → List AObj → Prop} (h : ACall P f (.p y :: args) H Q) (hx : pureX x = some y) : ACall P f (x :: args) H Q :=
  ⟨fun B G w vals wr rv => h.run B G w vals wr ⟨rv.1, fun i z v hz hv => by
    cases i with
    | zero =>
      simp only [List.getElem?_cons_zero, Option.some.injEq] at hz
      subst hz
      rw [pureX_eq] at hx
      exact .p (pure_ok (rv.2 0 x v rfl hv) hx)
    | succ i => exact rv.2 (i + 1) z v hz hv⟩⟩
theorem frameP {P : Program} {cc : FuncId → List AV → List AObj → (AV → List AObj → Prop) → Prop} (hcc : ACall P = cc) {f : FuncId} {args0 args rest : List AV} {x : AV} {y : PV} {H0 H1 H : List AObj} {X : AV} {K : AV → List AObj → Prop} (s : List Nat)
    (h : ACall P f (.p y :: args0) H0 fun r H' => r = X ∧ takeX H' (lenX H1) = H1) (hs : onceX s = true) (hl : lenX H1 = lenX s) (ha : args = x :: rest) (hx : pureX x = some y) (hr : rest = AV.renL s args0) (hH : optL (nth H) s = some (mapX (AObj.ren s) H0)) (hlt : (AV.ltL (lenX s) (.p y :: args0) && ltH (lenX s) H0 && (AV.ltB (lenX s) X && ltH (lenX s) H1)) = true)
    (k : K (AV.ren s X) (backX s s H1 H)) : cc f args H K := by
  subst hcc ha
  rw [lenX_eq s] at hl hlt
  rw [Bool.and_eq_true, Bool.and_eq_true (AV.ltB _ _)] at hlt
  refine ACall.head ?_ hx
  rw [show (AV.p y :: rest) = AV.renL s (.p y :: args0) by rw [hr]; rfl]
  refine h.frame s hs rfl hH hlt.1 ?_
  rintro r H' ⟨rfl, hH'⟩
  rw [hl] at hH'
  rw [hH']
  exact ⟨hlt.2.1, by rw [← lenX_eq]; exact hl, hlt.2.2, k⟩

def isX (x y : Int) : Bool := decide (x = y)
theorem any_isX (x : Int) (l : List Int) : l.any (isX x) = l.contains x := by
  rw [Bool.eq_iff_iff]
  simp [isX]
theorem index_c (x : Int) (l : List Int) (L : List (List PV)) (hL : l.map i64c = L) (hs : l.length ≤ 140737488355328) : PCall Tryz.prog 91 [.sl L, .int .i64 x] fun r => r = [.int .i64 (idxI (isX x) l 0)] := by
  have hel : L.length = l.length := by rw [← hL]; simp
  obtain ⟨q, hq⟩ : ∃ q, idxI (isX x) l 0 = q := ⟨_, rfl⟩
  rw [hq]
  refine PCall.x (nt := 19) (res := [.tmp 4]) mixed tt_ok [] Tryz.func91 rfl rfl rfl c91 (Nat.le_of_ble_eq_true rfl) ?_
  intro cp cc lp Q' hcp hcc hlp hQ
  repeat' (first
    | (with_reducible refine Nm.mk ?_; intro z hz)
    | (with_reducible refine IfB.mk ?_ ?_ <;> (intro h; cases h))
    | (with_reducible refine Two.l ?_; refine Asm.mk ?_ ?_; focus (decide +kernel))
    | (with_reducible refine Two.r ?_)
    | (with_reducible refine Asm.mk ?_ ?_; focus (first | kernel_rfl | decide))
    | (with_reducible refine Asm.mk2 ?_ ?_)
    | ((fail_if_success (with_reducible first | refine hQ _ ?_ | refine Side.mk ?_ | refine isCP hcp ?_ | refine isCC hcc ?_ | refine isLP hlp ?_ | refine Ix.mk ?_ | refine SIx.mk ?_ | refine SEx.mk ?_ | refine EIx.mk ?_ | refine RIx.mk ?_ | show False | refine hR ?_ _ ?_ ?_ ?_ ?_ ?_ | refine hR2 ?_ _ ?_ ?_ ?_ ?_ ?_)); cbv))
  simp only [nc] at hz
  simp only [nc'] at hz
  have hzl := hz
  clear hz
  rename Int => zl
  refine loopK (ι := Int) mixed tt_ok hcp hcc hlp [0, 1, 7] (fun i => [(8, .p (.int .i64 i))]) (fun i => 0 ≤ i ∧ i ≤ zl ∧ idxI (isX x) (l.drop i.toNat) i = q) (fun i => (zl - i).toNat) 0 (fun _ => rfl) ⟨by omega, by omega, hq⟩ ⟨rfl, trivial⟩ ?_
  rintro R i ⟨hi0, hi1, hiq⟩ hR
  have hk : decide (i < zl) = true → i < l.length := by simp only [decide_eq_true_eq]; omega
  have hst : decide (i < zl) = true → IntKind.i64.wrap (i + 1) = i + 1 ∧ (0 ≤ i + 1 ∧ i + 1 ≤ zl) ∧ (zl - (i + 1)).toNat < (zl - i).toNat := by
    intro h
    have hlt := hk h
    simp only [decide_eq_true_eq] at h
    exact ⟨wrap_in (by omega), by omega, by omega⟩
  have hstep : ∀ y, l[i.toNat]? = some y → q = if isX x y = true then i else idxI (isX x) (l.drop (i + 1).toNat) (i + 1) := by
    intro y hy
    have hlt := (List.getElem?_eq_some_iff.1 hy).1
    rw [← hiq, List.drop_eq_getElem_cons hlt, show (i + 1).toNat = i.toNat + 1 by omega, idxI]
    rw [(List.getElem?_eq_some_iff.1 hy).2]
  have hfin : decide (i < zl) = false → q = -1 := by
    simp only [decide_eq_false_iff_not]; intro h
    rw [← hiq, List.drop_eq_nil_of_le (by omega)]; rfl
  repeat' (first
    | (with_reducible refine Nm.mk ?_; intro z hz)
    | (with_reducible refine IfB.mk ?_ ?_ <;> (intro h; cases h))
    | (with_reducible refine Two.l ?_; refine Asm.mk ?_ ?_; focus (decide +kernel))
    | (with_reducible refine Two.r ?_)
    | (with_reducible refine Asm.mk ?_ ?_; focus kernel_rfl)
    | (with_reducible refine Ix.map hL i64c_len (by decide) hi0 (hk (by assumption)) ?_; intro y hy)
    | (with_reducible refine Asm.mk2 ?_ ?_)
    | ((fail_if_success (with_reducible first | refine hQ _ ?_ | refine Side.mk ?_ | refine isCP hcp ?_ | refine isCC hcc ?_ | refine isLP hlp ?_ | refine Ix.mk ?_ | refine SIx.mk ?_ | refine SEx.mk ?_ | refine EIx.mk ?_ | refine RIx.mk ?_ | show False | refine hR ?_ _ ?_ ?_ ?_ ?_ ?_ | refine hR2 ?_ _ ?_ ?_ ?_ ?_ ?_)); cbv))
  all_goals first
    | (have e := hstep _ hy
       obtain ⟨e1, u, mu⟩ := hst (by assumption)
       first
         | (have g : decide (x = y) = true := by assumption
            refine hQ _ ?_
            rw [e, if_pos (show isX x y = true from g)])
         | (rw [e1] at hz
            have g : decide (x = y) = false := by assumption
            rw [if_neg (show ¬ isX x y = true by rw [isX, g]; decide)] at e
            exact hR (i + 1) _ ⟨u.1, u.2, e.symm⟩ mu ⟨hz ▸ rfl, trivial⟩ ⟨rfl, rfl, rfl, trivial⟩ rfl))
    | (refine hQ _ ?_
       rw [hfin (by assumption)])
theorem contains_c (x : Int) (l : List Int) (L : List (List PV)) (hL : l.map i64c = L) (hs : l.length ≤ 140737488355328) : PCall Tryz.prog 45 [.sl L, .int .i64 x] fun r => r = [.bool (l.contains x)] := by
  have h := index_c x l L hL hs
  have ha := idxI_any (isX x) l 0 (by decide)
  rw [← any_isX]
  refine PCall.x (nt := 9) (res := [.tmp 4]) mixed tt_ok [] Tryz.func45 rfl rfl rfl c45 (Nat.le_of_ble_eq_true rfl) ?_
  intro cp cc lp Q' hcp hcc hlp hQ
  repeat' (first
    | (with_reducible refine Nm.mk ?_; intro z hz)
    | (with_reducible refine IfB.mk ?_ ?_ <;> (intro h; cases h))
    | (with_reducible refine Two.l ?_; refine Asm.mk ?_ ?_; focus (decide +kernel))
    | (with_reducible refine Two.r ?_)
    | (with_reducible refine Asm.mk ?_ ?_; focus (first | kernel_rfl | decide))
    | (with_reducible refine isCP hcp ?_; first | (refine iP hcp (h) ?_; intro z hz))
    | (with_reducible refine isCC hcc ?_; first | (refine iA hcc (h) rfl ?_; intro z hz))
    | (with_reducible refine Asm.mk2 ?_ ?_)
    | ((fail_if_success (with_reducible first | refine hQ _ ?_ | refine Side.mk ?_ | refine isCP hcp ?_ | refine isCC hcc ?_ | refine isLP hlp ?_ | refine Ix.mk ?_ | refine SIx.mk ?_ | refine SEx.mk ?_ | refine EIx.mk ?_ | refine RIx.mk ?_ | show False | refine hR ?_ _ ?_ ?_ ?_ ?_ ?_ | refine hR2 ?_ _ ?_ ?_ ?_ ?_ ?_)); cbv))
  all_goals (refine hQ _ ?_; clear hQ hcp hcc hlp h; congr 2; subst_vars; rw [Bool.eq_iff_iff, ← ha]; simp)

/-- The boxes that Strict's two functions share. -/
def nullH (C : List (List PV)) : List AObj := [.cells [.p (.sl C)], .cells [.fn 44 [.ref 0 0, .ref 1 0]]]
def untrueH (C : List (List PV)) : List AObj := [.cells [.p (.sl C)], .cells [.fn 44 [.ref 0 0, .ref 1 0]], .cells [.fn 47 [.ref 1 0, .ref 2 0]]]
def NullC (cs : List Int) (C : List (List PV)) (e : Ex) : Prop := ACall Tryz.prog 44 [.p (.agg e.cells), .ref 0 0, .ref 1 0] (nullH C) fun r H' => r = .p (.bool (nullM cs e)) ∧ takeX H' 2 = nullH C
end Go.Proofs.YtnhmnfokbinplaaGreat

namespace Go.Proofs.YtnhmnfokbinplaaGreat
open Go Go.RowKit
set_option maxRecDepth 100000
set_option linter.unusedSimpArgs false
set_option linter.unusedVariables false

theorem indexNull_c (cs : List Int) (C : List (List PV)) (ar : List Ex) (es : List (List PV)) (hes : ar.map Ex.cells = es) (hs : wideN ar.length) (hp : ∀ e, e ∈ ar → NullC cs C e) :
    ACall Tryz.prog 92 [.p (.sl es), .fn 44 [.ref 0 0, .ref 1 0]] (nullH C) fun r H' => r = .p (.int .i64 (idxI (nullM cs) ar 0)) ∧ takeX H' 2 = nullH C := by
  have hel : es.length = ar.length := by rw [← hes]; simp
  unfold wideN at hs
  obtain ⟨q, hq⟩ : ∃ q, idxI (nullM cs) ar 0 = q := ⟨_, rfl⟩
  rw [hq]
  have hpc : ∀ (op' m' vk' vn' : Int) (vs' : ByteArray) (ar' : List Ex) (es' : List (List PV)) (i : Nat), ar[i]? = some (.mk op' m' ⟨vk', vn', vs'⟩ ar') → ar'.map Ex.cells = es' → ∃ b, nullM cs (.mk op' m' ⟨vk', vn', vs'⟩ ar') = b ∧
      ACall Tryz.prog 44 [.p (.agg [.int .i64 op', .int .i64 m', .int .i64 vk', .int .i64 vn', .str vs', .sl es']), .ref 0 0, .ref 1 0] (nullH C) fun r H' => r = .p (.bool b) ∧ takeX H' 2 = nullH C := by
    intro op' m' vk' vn' vs' ar' es' i hx he
    have := hp _ (List.mem_of_getElem? hx)
    unfold NullC at this
    rw [cells_mk, he] at this
    exact ⟨_, rfl, this⟩
  refine ACall.x (nt := 19) (res := [.tmp 4]) mixed tt_ok [] Tryz.func92 rfl rfl rfl c92 (Nat.le_of_ble_eq_true rfl) ?_
  intro cp cc lp Q' hcp hcc hlp hQ
  repeat' (first
    | (with_reducible refine Nm.mk ?_; intro z hz)
    | (with_reducible refine IfB.mk ?_ ?_ <;> (intro h; cases h))
    | (with_reducible refine Two.l ?_; refine Asm.mk ?_ ?_; focus (decide +kernel))
    | (with_reducible refine Two.r ?_)
    | (with_reducible refine Asm.mk ?_ ?_; focus (first | kernel_rfl | decide))
    | (with_reducible refine Asm.mk2 ?_ ?_)
    | ((fail_if_success (with_reducible first | refine hQ _ _ ?_ | refine Side.mk ?_ | refine isCP hcp ?_ | refine isCC hcc ?_ | refine isLP hlp ?_ | refine Ix.mk ?_ | refine SIx.mk ?_ | refine SEx.mk ?_ | refine EIx.mk ?_ | refine RIx.mk ?_ | show False | refine hR ?_ _ ?_ ?_ ?_ ?_ ?_ | refine hR2 ?_ _ ?_ ?_ ?_ ?_ ?_)); cbv))
  simp only [nc] at hz
  simp only [nc'] at hz
  have hzl := hz
  clear hz
  rename Int => zl
  refine loopK (ι := Int) mixed tt_ok hcp hcc hlp [0, 1, 7] (fun i => [(8, .p (.int .i64 i))]) (fun i => 0 ≤ i ∧ i ≤ zl ∧ idxI (nullM cs) (ar.drop i.toNat) i = q) (fun i => (zl - i).toNat) 0 (fun _ => rfl) ⟨by omega, by omega, hq⟩ ⟨rfl, trivial⟩ ?_
  rintro R i ⟨hi0, hi1, hiq⟩ hR
  have hk : decide (i < zl) = true → i < ar.length := by simp only [decide_eq_true_eq]; omega
  have hst : decide (i < zl) = true → IntKind.i64.wrap (i + 1) = i + 1 ∧ (0 ≤ i + 1 ∧ i + 1 ≤ zl) ∧ (zl - (i + 1)).toNat < (zl - i).toNat := by
    intro h
    have hlt := hk h
    simp only [decide_eq_true_eq] at h
    exact ⟨wrap_in (by omega), by omega, by omega⟩
  have hstep : ∀ x, ar[i.toNat]? = some x → q = if nullM cs x = true then i else idxI (nullM cs) (ar.drop (i + 1).toNat) (i + 1) := by
    intro x hx
    have hlt := (List.getElem?_eq_some_iff.1 hx).1
    rw [← hiq, List.drop_eq_getElem_cons hlt, show (i + 1).toNat = i.toNat + 1 by omega, idxI]
    rw [(List.getElem?_eq_some_iff.1 hx).2]
  have hfin : decide (i < zl) = false → q = -1 := by
    simp only [decide_eq_false_iff_not]; intro h
    rw [← hiq, List.drop_eq_nil_of_le (by omega)]; rfl
  repeat' (first
    | (with_reducible refine Nm.mk ?_; intro z hz)
    | (with_reducible refine IfB.mk ?_ ?_ <;> (intro h; cases h))
    | (with_reducible refine Two.l ?_; refine Asm.mk ?_ ?_; focus (decide +kernel))
    | (with_reducible refine Two.r ?_)
    | (with_reducible refine Asm.mk ?_ ?_; focus kernel_rfl)
    | (with_reducible refine Ix.ex hes hi0 (hk (by assumption)) ?_; intro op' m' vk' vn' vs' ar' es' hx hes')
    | (with_reducible refine isCC hcc ?_; obtain ⟨b', hb', hcall⟩ := hpc _ _ _ _ _ _ _ i.toNat hx hes'; refine frameA (H1 := nullH C) hcc [0, 1] hcall rfl rfl rfl rfl rfl ?_)
    | (with_reducible refine Asm.mk2 ?_ ?_)
    | ((fail_if_success (with_reducible first | refine hQ _ _ ?_ | refine Side.mk ?_ | refine isCP hcp ?_ | refine isCC hcc ?_ | refine isLP hlp ?_ | refine Ix.mk ?_ | refine SIx.mk ?_ | refine SEx.mk ?_ | refine EIx.mk ?_ | refine RIx.mk ?_ | show False | refine hR ?_ _ ?_ ?_ ?_ ?_ ?_ | refine hR2 ?_ _ ?_ ?_ ?_ ?_ ?_)); cbv))
  all_goals first
    | (have e := hstep _ hx
       obtain ⟨e1, u, mu⟩ := hst (by assumption)
       first
         | (refine hQ _ _ ⟨?_, rfl⟩
            rw [e, if_pos hb']
            rfl)
         | (rw [e1] at hz
            rw [hb', if_neg (by decide)] at e
            exact hR (i + 1) _ ⟨u.1, u.2, e.symm⟩ mu ⟨hz ▸ rfl, trivial⟩ ⟨rfl, rfl, rfl, trivial⟩ rfl))
    | (refine hQ _ _ ⟨?_, rfl⟩
       rw [hfin (by assumption)]
       rfl)
theorem containsNull_c (cs : List Int) (C : List (List PV)) (ar : List Ex) (es : List (List PV)) (hes : ar.map Ex.cells = es) (hs : wideN ar.length) (hp : ∀ e, e ∈ ar → NullC cs C e) :
    ACall Tryz.prog 46 [.p (.sl es), .fn 44 [.ref 0 0, .ref 1 0]] (nullH C) fun r H' => r = .p (.bool (ar.any (nullM cs))) ∧ takeX H' 2 = nullH C := by
  have h := indexNull_c cs C ar es hes hs hp
  have ha := idxI_any (nullM cs) ar 0 (by decide)
  obtain ⟨q, hq⟩ : ∃ q, idxI (nullM cs) ar 0 = q := ⟨_, rfl⟩
  rw [hq] at h ha
  refine ACall.x (nt := 9) (res := [.tmp 4]) mixed tt_ok [] Tryz.func46 rfl rfl rfl c46 (Nat.le_of_ble_eq_true rfl) ?_
  intro cp cc lp Q' hcp hcc hlp hQ
  repeat' (first
    | (with_reducible refine Nm.mk ?_; intro z hz)
    | (with_reducible refine IfB.mk ?_ ?_ <;> (intro h; cases h))
    | (with_reducible refine Two.l ?_; refine Asm.mk ?_ ?_; focus (decide +kernel))
    | (with_reducible refine Two.r ?_)
    | (with_reducible refine Asm.mk ?_ ?_; focus kernel_rfl)
    | (with_reducible refine isCC hcc ?_; refine frameA (H1 := nullH C) hcc [0, 1] h rfl rfl rfl rfl rfl ?_)
    | (with_reducible refine Asm.mk2 ?_ ?_)
    | ((fail_if_success (with_reducible first | refine hQ _ _ ?_ | refine Side.mk ?_ | refine isCP hcp ?_ | refine isCC hcc ?_ | refine isLP hlp ?_ | refine Ix.mk ?_ | refine SIx.mk ?_ | refine SEx.mk ?_ | refine EIx.mk ?_ | refine RIx.mk ?_ | show False | refine hR ?_ _ ?_ ?_ ?_ ?_ ?_ | refine hR2 ?_ _ ?_ ?_ ?_ ?_ ?_)); cbv))
  all_goals
    (refine hQ _ _ ⟨?_, rfl⟩
     clear hQ hcp hcc hlp h hp
     have e : z = ar.any (nullM cs) := by rw [← hz, Bool.eq_iff_iff, ← ha]; simp
     rw [← e]
     rfl)
theorem null1_c (cs : List Int) (C : List (List PV)) (hC : cs.map i64c = C) (hcl : cs.length ≤ 140737488355328) (op n vk vn : Int) (vs : ByteArray) (ar : List Ex) (es : List (List PV)) (hes : ar.map Ex.cells = es) (hs : wideN ar.length) (hp : ∀ e, e ∈ ar → NullC cs C e) :
    ACall Tryz.prog 44 [.p (.agg [.int .i64 op, .int .i64 n, .int .i64 vk, .int .i64 vn, .str vs, .sl es]), .ref 0 0, .ref 1 0] (nullH C) fun r H' => r = .p (.bool (nullM cs (.mk op n ⟨vk, vn, vs⟩ ar))) ∧ takeX H' 2 = nullH C := by
  have hcon := contains_c n cs C hC hcl
  have hca := containsNull_c cs C ar es hes hs hp
  obtain ⟨q, hq⟩ : ∃ q, nullM cs (.mk op n ⟨vk, vn, vs⟩ ar) = q := ⟨_, rfl⟩
  rw [hq]
  rw [nullM, nullL_any] at hq
  obtain ⟨q1, hq1⟩ : ∃ q1, ar.any (nullM cs) = q1 := ⟨_, rfl⟩
  rw [hq1] at hq hca
  refine ACall.x (nt := 29) (res := [.tmp 4]) mixed tt_ok [] Tryz.func44 rfl rfl rfl c44 (Nat.le_of_ble_eq_true rfl) ?_
  intro cp cc lp Q' hcp hcc hlp hQ
  repeat' (first
    | (with_reducible refine Nm.mk ?_; intro z hz)
    | (with_reducible refine IfB.mk ?_ ?_ <;> (intro h; cases h))
    | (with_reducible refine Two.l ?_; refine Asm.mk ?_ ?_; focus (decide +kernel))
    | (with_reducible refine Two.r ?_)
    | (with_reducible refine Asm.mk ?_ ?_; focus kernel_rfl)
    | (with_reducible refine isCP hcp ?_; first | (refine bP hcp (hcon) ?_; intro z hz) | (refine vP hcp (clean_c vk vn vs) ?_; intro v hv))
    | (with_reducible refine isCC hcc ?_; first | (refine bA hcc (hcon) rfl ?_; intro z hz) | (refine vA hcc (clean_c vk vn vs) rfl ?_; intro v hv))
    | (with_reducible refine isCC hcc ?_; refine frameA (H1 := nullH C) hcc [0, 1] hca rfl rfl rfl rfl rfl ?_)
    | (with_reducible refine Asm.mk2 ?_ ?_)
    | ((fail_if_success (with_reducible first | refine hQ _ _ ?_ | refine Side.mk ?_ | refine isCP hcp ?_ | refine isCC hcc ?_ | refine isLP hlp ?_ | refine Ix.mk ?_ | refine SIx.mk ?_ | refine SEx.mk ?_ | refine EIx.mk ?_ | refine RIx.mk ?_ | show False | refine hR ?_ _ ?_ ?_ ?_ ?_ ?_ | refine hR2 ?_ _ ?_ ?_ ?_ ?_ ?_)); cbv))
  all_goals
    (refine hQ _ _ ⟨?_, rfl⟩
     clear hQ hcp hcc hlp hca hcon hp hq1 hes hC hcl hs
     show AV.p (PV.bool _) = AV.p (PV.bool _)
     congr 2
     rw [← hq]
     simp_all)
mutual
theorem null_all (cs : List Int) (C : List (List PV)) (hC : cs.map i64c = C) (hcl : cs.length ≤ 140737488355328) : ∀ e : Ex, e.wide → NullC cs C e
  | .mk op n v ar, hw => by
    unfold NullC
    rw [cells_mk]
    exact null1_c cs C hC hcl op n _ _ _ ar _ rfl hw.1 (null_allL cs C hC hcl ar hw.2)
theorem null_allL (cs : List Int) (C : List (List PV)) (hC : cs.map i64c = C) (hcl : cs.length ≤ 140737488355328) : ∀ l : List Ex, wideL l → ∀ e, e ∈ l → NullC cs C e
  | [], _, e, he => absurd he (by simp)
  | x :: r, hw, e, he => by
    rcases List.mem_cons.1 he with h | he
    · exact h ▸ null_all cs C hC hcl x hw.1
    · exact null_allL cs C hC hcl r hw.2 e he
end

def UntrueC (cs : List Int) (C : List (List PV)) (e : Ex) : Prop := ACall Tryz.prog 47 [.p (.agg e.cells), .ref 1 0, .ref 2 0] (untrueH C) fun r H' => r = .p (.bool (untrueM cs e)) ∧ takeX H' 3 = untrueH C
set_option maxHeartbeats 4000000 in
theorem untrue1_c (cs : List Int) (C : List (List PV)) (hC : cs.map i64c = C) (hcl : cs.length ≤ 140737488355328) (op n vk vn : Int) (vs : ByteArray) (ar : List Ex) (es : List (List PV)) (hes : ar.map Ex.cells = es) (hg : goodE (.mk op n ⟨vk, vn, vs⟩ ar) = true) (hp : ∀ e, e ∈ ar → UntrueC cs C e) :
    ACall Tryz.prog 47 [.p (.agg [.int .i64 op, .int .i64 n, .int .i64 vk, .int .i64 vn, .str vs, .sl es]), .ref 1 0, .ref 2 0] (untrueH C) fun r H' => r = .p (.bool (untrueM cs (.mk op n ⟨vk, vn, vs⟩ ar))) ∧ takeX H' 3 = untrueH C := by
  have hel : es.length = ar.length := by rw [← hes]; simp
  have hn := null_all cs C hC hcl _ (good_wide _ hg)
  unfold NullC at hn
  rw [cells_mk, hes] at hn
  simp only [goodE, Bool.and_eq_true, Bool.not_eq_true'] at hg
  have ha := badE_arity hg.1
  have hl19 : op = 19 → 2 = ar.length := by rintro rfl; simp [arityE] at ha; omega
  have hl20 : op = 20 → 2 = ar.length := by rintro rfl; simp [arityE] at ha; omega
  obtain ⟨q, hq⟩ : ∃ q, untrueM cs (.mk op n ⟨vk, vn, vs⟩ ar) = q := ⟨_, rfl⟩
  rw [hq]
  rw [untrueM, untrueL_eq] at hq
  obtain ⟨qn, hqn⟩ : ∃ q1, nullM cs (.mk op n ⟨vk, vn, vs⟩ ar) = q1 := ⟨_, rfl⟩
  rw [hqn] at hq hn
  have hpc : ∀ (i : Int) (b : Bool), ((ar.map (untrueM cs))[i.toNat]?).getD false = b → ∀ (op' m' vk' vn' : Int) (vs' : ByteArray) (ar' : List Ex) (es' : List (List PV)), ar[i.toNat]? = some (.mk op' m' ⟨vk', vn', vs'⟩ ar') → ar'.map Ex.cells = es' →
      ACall Tryz.prog 47 [.p (.agg [.int .i64 op', .int .i64 m', .int .i64 vk', .int .i64 vn', .str vs', .sl es']), .ref 1 0, .ref 2 0] (untrueH C) fun r H' => r = .p (.bool b) ∧ takeX H' 3 = untrueH C := by
    rintro i b rfl op' m' vk' vn' vs' ar' es' hx he
    have := hp _ (List.mem_of_getElem? hx)
    unfold UntrueC at this
    rw [cells_mk, he] at this
    rw [List.getElem?_map, hx]
    exact this
  obtain ⟨u0, hu0⟩ : ∃ u, ((ar.map (untrueM cs))[0]?).getD false = u := ⟨_, rfl⟩
  obtain ⟨u1, hu1⟩ : ∃ u, ((ar.map (untrueM cs))[1]?).getD false = u := ⟨_, rfl⟩
  have hpc0 := hpc 0 u0 hu0
  have hpc1 := hpc 1 u1 hu1
  rw [hu0, hu1] at hq
  clear hpc hu0 hu1
  have i0 : decide (op = 19) = true → (0 : Int) < ar.length := fun h => by have := hl19 (of_decide_eq_true h); omega
  have i1 : decide (op = 19) = true → (1 : Int) < ar.length := fun h => by have := hl19 (of_decide_eq_true h); omega
  have j0 : decide (op = 20) = true → (0 : Int) < ar.length := fun h => by have := hl20 (of_decide_eq_true h); omega
  have j1 : decide (op = 20) = true → (1 : Int) < ar.length := fun h => by have := hl20 (of_decide_eq_true h); omega
  have ht := true_c vk vn vs
  clear hp ha hl19 hl20 hg
  refine ACall.x (nt := 48) (res := [.tmp 4]) mixed tt_ok [] Tryz.func47 rfl rfl rfl c47 (Nat.le_of_ble_eq_true rfl) ?_
  intro cp cc lp Q' hcp hcc hlp hQ
  repeat' (first
    | (with_reducible refine Nm.mk ?_; intro z hz)
    | (with_reducible refine IfB.mk ?_ ?_ <;> (intro h; cases h))
    | (with_reducible refine Two.l ?_; refine Asm.mk ?_ ?_; focus (decide +kernel))
    | (with_reducible refine Two.r ?_)
    | (with_reducible refine Asm.mk ?_ ?_; focus kernel_rfl)
    | (with_reducible refine isCP hcp ?_; first | (refine bP hcp (ht) ?_; intro z hz))
    | (with_reducible refine isCC hcc ?_; first | (refine bA hcc (ht) rfl ?_; intro z hz))
    | (with_reducible refine isCC hcc ?_; refine frameP (H1 := nullH C) hcc [0, 1] hn rfl rfl rfl rfl rfl rfl rfl ?_)
    | (with_reducible refine Ix.ex (i := 0) hes (by decide) (by first | exact i0 (by assumption) | exact j0 (by assumption)) ?_; intro op0 m0 vk0 vn0 vs0 ar0 es0 hx0 hes0)
    | (with_reducible refine Ix.ex (i := 1) hes (by decide) (by first | exact i1 (by assumption) | exact j1 (by assumption)) ?_; intro op1 m1 vk1 vn1 vs1 ar1 es1 hx1 hes1)
    | (with_reducible refine isCC hcc ?_; refine frameA (H1 := untrueH C) hcc [0, 1, 2] (hpc0 _ _ _ _ _ _ _ (by assumption) (by assumption)) rfl rfl rfl rfl rfl ?_)
    | (with_reducible refine isCC hcc ?_; refine frameA (H1 := untrueH C) hcc [0, 1, 2] (hpc1 _ _ _ _ _ _ _ (by assumption) (by assumption)) rfl rfl rfl rfl rfl ?_)
    | (with_reducible refine Asm.mk2 ?_ ?_)
    | ((fail_if_success (with_reducible first | refine hQ _ _ ?_ | refine Side.mk ?_ | refine isCP hcp ?_ | refine isCC hcc ?_ | refine isLP hlp ?_ | refine Ix.mk ?_ | refine SIx.mk ?_ | refine SEx.mk ?_ | refine EIx.mk ?_ | refine RIx.mk ?_ | show False | refine hR ?_ _ ?_ ?_ ?_ ?_ ?_ | refine hR2 ?_ _ ?_ ?_ ?_ ?_ ?_)); cbv))
  all_goals
    (refine hQ _ _ ⟨?_, rfl⟩
     clear hQ hcp hcc hlp hn hpc0 hpc1 ht i0 i1 j0 j1 hC hcl hes hel
     show AV.p (PV.bool _) = AV.p (PV.bool _)
     congr 2 <;> (rw [← hq] <;> simp_all))
mutual
theorem untrue_all (cs : List Int) (C : List (List PV)) (hC : cs.map i64c = C) (hcl : cs.length ≤ 140737488355328) : ∀ e : Ex, goodE e = true → UntrueC cs C e
  | .mk op n ⟨vk, vn, vs⟩ ar, hg => by
    have hg' := hg
    simp only [goodE, Bool.and_eq_true] at hg'
    unfold UntrueC
    rw [cells_mk]
    exact untrue1_c cs C hC hcl op n vk vn vs ar _ rfl hg (untrue_allL cs C hC hcl ar hg'.2)
theorem untrue_allL (cs : List Int) (C : List (List PV)) (hC : cs.map i64c = C) (hcl : cs.length ≤ 140737488355328) : ∀ l : List Ex, goodL l = true → ∀ e, e ∈ l → UntrueC cs C e
  | [], _, e, he => absurd he (by simp)
  | x :: r, hg, e, he => by
    simp only [goodL, Bool.and_eq_true] at hg
    rcases List.mem_cons.1 he with h | he
    · exact h ▸ untrue_all cs C hC hcl x hg.1
    · exact untrue_allL cs C hC hcl r hg.2 e he
end
end Go.Proofs.YtnhmnfokbinplaaGreat

namespace Go.Proofs.YtnhmnfokbinplaaGreat
open Go Go.RowKit
set_option maxRecDepth 100000
set_option linter.unusedSimpArgs false
set_option linter.unusedVariables false

set_option maxHeartbeats 4000000 in
theorem strict_c (cs : List Int) (C : List (List PV)) (hC : cs.map i64c = C) (hcl : cs.length ≤ 140737488355328) (op n vk vn : Int) (vs : ByteArray) (ar : List Ex) (es : List (List PV)) (hes : ar.map Ex.cells = es) :
    PCall Tryz.prog 17 [.agg [.int .i64 op, .int .i64 n, .int .i64 vk, .int .i64 vn, .str vs, .sl es], .sl C] fun r => r = [.bool (strictM cs (.mk op n ⟨vk, vn, vs⟩ ar))] := by
  have hbt := ebuilt_c op n vk vn vs ar es hes
  obtain ⟨z, hz0⟩ : ∃ z, builtM (.mk op n ⟨vk, vn, vs⟩ ar) = z := ⟨_, rfl⟩
  obtain ⟨u, hu⟩ : ∃ u, untrueM cs (.mk op n ⟨vk, vn, vs⟩ ar) = u := ⟨_, rfl⟩
  have hun : z = true → ACall Tryz.prog 47 [.p (.agg [.int .i64 op, .int .i64 n, .int .i64 vk, .int .i64 vn, .str vs, .sl es]), .ref 1 0, .ref 2 0] (untrueH C) fun r H' => r = .p (.bool u) ∧ takeX H' 3 = untrueH C := by
    intro h
    have := untrue_all cs C hC hcl _ (good_of_built (hz0.trans h))
    unfold UntrueC at this
    rw [cells_mk, hes, hu] at this
    exact this
  unfold strictM
  rw [hz0] at hbt ⊢
  rw [hu]
  clear hz0 hu
  obtain ⟨q, hq⟩ : ∃ q, (z && u) = q := ⟨_, rfl⟩
  rw [hq]
  have q0 : z = false → q = false := by rintro rfl; rw [← hq]; rfl
  have q1 : z = true → q = u := by rintro rfl; rw [← hq]; rfl
  refine PCall.x (nt := 16) (res := [.tmp 4]) mixed tt_ok [] Tryz.func17 rfl rfl rfl c17 (Nat.le_of_ble_eq_true rfl) ?_
  intro cp cc lp Q' hcp hcc hlp hQ
  repeat' (first
    | (with_reducible refine Nm.mk ?_; intro z hz)
    | (with_reducible refine IfB.mk ?_ ?_ <;> (intro h; cases h))
    | (with_reducible refine Two.l ?_; refine Asm.mk ?_ ?_; focus (decide +kernel))
    | (with_reducible refine Two.r ?_)
    | (with_reducible refine Asm.mk ?_ ?_; focus kernel_rfl)
    | (with_reducible refine isCP hcp ?_; first | (refine bP hcp (hbt) ?_; intro z hz))
    | (with_reducible refine isCC hcc ?_; first | (refine bA hcc (hbt) rfl ?_; intro z hz))
    | (with_reducible refine isCC hcc ?_; refine frameP (H1 := untrueH C) hcc [1, 2, 3] (hun (by assumption)) rfl rfl rfl rfl rfl rfl rfl ?_)
    | (with_reducible refine Asm.mk2 ?_ ?_)
    | ((fail_if_success (with_reducible first | refine hQ _ ?_ | refine Side.mk ?_ | refine isCP hcp ?_ | refine isCC hcc ?_ | refine isLP hlp ?_ | refine Ix.mk ?_ | refine SIx.mk ?_ | refine SEx.mk ?_ | refine EIx.mk ?_ | refine RIx.mk ?_ | show False | refine hR ?_ _ ?_ ?_ ?_ ?_ ?_ | refine hR2 ?_ _ ?_ ?_ ?_ ?_ ?_)); cbv))
  all_goals refine hQ _ ?_
  · rw [q1 (by assumption)]
  · rw [q0 (by assumption)]

theorem bytes3' : Tryz.prog.bytesOf 3 = 8 := by kernel_rfl
theorem fitsCols {n : Nat} {x : PV} (h : FitsA Tryz.prog n 28 x) : ∃ l : List Int, x = .sl (l.map i64c) ∧ l.length * 8 ≤ 140737488351232 := by
  obtain ⟨m, es, rfl, h1, ⟨h2, h3⟩, h4⟩ := (h.one Tryz.underlying28 rfl).slice Tryz.underlying28
  simp only [List.cons.injEq, and_true] at h1
  subst h1
  obtain ⟨l, rfl, _⟩ := elems_of (enc := i64c) (ok := fun _ => True) (fun x hx => by
    obtain ⟨v, e, _⟩ := (h4 x hx).2.int Tryz.underlying3
    exact ⟨v, e.symm, trivial⟩)
  rw [bytes3', List.length_map] at h3
  exact ⟨l, rfl, h3⟩
end Go.Proofs.YtnhmnfokbinplaaGreat

namespace Go.Proofs.YtnhmnfokbinplaaGreat
open Go Go.RowKit
set_option maxRecDepth 100000
set_option linter.unusedSimpArgs false
set_option linter.unusedVariables false

def lostH (b : Bool) (C : List (List PV)) : List AObj := [.cells [.p (.bool b)], .cells [.p (.sl C)]]
def lost1 (n : Nat) (op m : Int) (b : Bool) : Bool := b || (decide (op = 1) && decide ((n : Int) ≤ m))
theorem lost_c (C : List (List PV)) (op m vk vn : Int) (vs : ByteArray) (es : List (List PV)) (b : Bool) :
    ACall Tryz.prog 27 [.p (.agg [.int .i64 op, .int .i64 m, .int .i64 vk, .int .i64 vn, .str vs, .sl es]), .ref 0 0, .ref 1 0] (lostH b C) fun r H' => r = .tup [] ∧ takeX H' 2 = lostH (lost1 C.length op m b) C := by
  obtain ⟨q, hq⟩ : ∃ q, lost1 C.length op m b = q := ⟨_, rfl⟩
  rw [hq]
  refine ACall.x (nt := 17) (res := []) mixed tt_ok [] Tryz.func27 rfl rfl rfl c27 (Nat.le_of_ble_eq_true rfl) ?_
  intro cp cc lp Q' hcp hcc hlp hQ
  repeat' (first
    | (with_reducible refine Nm.mk ?_; intro z hz)
    | (with_reducible refine IfB.mk ?_ ?_ <;> (intro h; cases h))
    | (with_reducible refine Two.l ?_; refine Asm.mk ?_ ?_; focus (decide +kernel))
    | (with_reducible refine Two.r ?_)
    | (with_reducible refine Asm.mk ?_ ?_; focus (first | kernel_rfl | decide))
    | (with_reducible refine Asm.mk2 ?_ ?_)
    | ((fail_if_success (with_reducible first | refine hQ _ _ ?_ | refine Side.mk ?_ | refine isCP hcp ?_ | refine isCC hcc ?_ | refine isLP hlp ?_ | refine Ix.mk ?_ | refine SIx.mk ?_ | refine SEx.mk ?_ | refine EIx.mk ?_ | refine RIx.mk ?_ | show False | refine hR ?_ _ ?_ ?_ ?_ ?_ ?_ | refine hR2 ?_ _ ?_ ?_ ?_ ?_ ?_)); cbv))
  · refine hQ _ _ ⟨rfl, ?_⟩
    rw [← hq]; rfl
  · have h1 : decide (op = 1) = true := by assumption
    rename_i zn hzn
    refine hQ _ _ ⟨rfl, ?_⟩
    have e : q = z := by rw [← hq, lost1, h1, ← hz, ← hzn]; rfl
    rw [e]; rfl
  · refine hQ _ _ ⟨rfl, ?_⟩
    have e : q = false := by rw [← hq, lost1, hz]; rfl
    rw [e]; rfl
mutual
def lostE (n : Nat) : Ex → Bool → Bool
  | .mk op m _ ar, b => lost1 n op m (lostL n ar b)
def lostL (n : Nat) : List Ex → Bool → Bool
  | [], b => b
  | e :: r, b => lostL n r (lostE n e b)
end
def EachC (C : List (List PV)) (e : Ex) : Prop := ∀ (cells : List PV) (b : Bool), e.cells = cells → ∃ b', lostE C.length e b = b' ∧
  ACall Tryz.prog 26 [.p (.agg cells), .fn 27 [.ref 0 0, .ref 1 0]] (lostH b C) fun r H' => r = .tup [] ∧ takeX H' 2 = lostH b' C
set_option maxHeartbeats 2000000 in
theorem each_c (C : List (List PV)) (op m vk vn : Int) (vs : ByteArray) (ar : List Ex) (es : List (List PV)) (hes : ar.map Ex.cells = es) (hal : ar.length ≤ 140737488355328) (IH : ∀ x, x ∈ ar → EachC C x) (b b' : Bool) (hq : lostE C.length (.mk op m ⟨vk, vn, vs⟩ ar) b = b') :
    ACall Tryz.prog 26 [.p (.agg [.int .i64 op, .int .i64 m, .int .i64 vk, .int .i64 vn, .str vs, .sl es]), .fn 27 [.ref 0 0, .ref 1 0]] (lostH b C) fun r H' => r = .tup [] ∧ takeX H' 2 = lostH b' C := by
  have hel : es.length = ar.length := by rw [← hes]; simp
  rw [lostE] at hq
  refine ACall.x (nt := 20) (res := []) mixed tt_ok [] Tryz.func26 rfl rfl rfl c26 (Nat.le_of_ble_eq_true rfl) ?_
  intro cp cc lp Q' hcp hcc hlp hQ
  repeat' (first
    | (with_reducible refine Nm.mk ?_; intro z hz)
    | (with_reducible refine IfB.mk ?_ ?_ <;> (intro h; cases h))
    | (with_reducible refine Two.l ?_; refine Asm.mk ?_ ?_; focus (decide +kernel))
    | (with_reducible refine Two.r ?_)
    | (with_reducible refine Asm.mk ?_ ?_; focus (first | kernel_rfl | decide))
    | (with_reducible refine Asm.mk2 ?_ ?_)
    | ((fail_if_success (with_reducible first | refine hQ _ _ ?_ | refine Side.mk ?_ | refine isCP hcp ?_ | refine isCC hcc ?_ | refine isLP hlp ?_ | refine Ix.mk ?_ | refine SIx.mk ?_ | refine SEx.mk ?_ | refine EIx.mk ?_ | refine RIx.mk ?_ | show False | refine hR ?_ _ ?_ ?_ ?_ ?_ ?_ | refine hR2 ?_ _ ?_ ?_ ?_ ?_ ?_)); cbv))
  simp only [nc] at hz
  simp only [nc'] at hz
  have hzl : z.toNat = ar.length ∧ 0 ≤ z := by omega
  obtain ⟨hzl, hzl0⟩ := hzl
  clear hz
  generalize z = zl at *
  refine loopT (ι := Int × Bool) mixed tt_ok hcp hcc hlp [1, 2, 7, 8] (fun p => [(9, .p (.int .i64 p.1))]) (fun p => [.cells [.p (.bool p.2)], .cells [.p (.sl C)], .cells [.p (.int .i64 op), .p (.int .i64 m), .p (.int .i64 vk), .p (.int .i64 vn), .p (.str vs), .p (.sl es)]])
    (fun p => (0 ≤ p.1 ∧ p.1 ≤ zl) ∧ lostL C.length (ar.drop p.1.toNat) p.2 = lostL C.length ar b) (fun p => (zl - p.1).toNat) (0, _) 3 (fun _ => rfl) ⟨⟨by show (0 : Int) ≤ 0; omega, by show (0 : Int) ≤ zl; omega⟩, rfl⟩ ⟨rfl, trivial⟩ rfl ?_
  rintro R ⟨i, b1⟩ ⟨⟨hi0, hi1⟩, hf⟩ hR
  replace hi0 : 0 ≤ i := hi0
  replace hi1 : i ≤ zl := hi1
  replace hf : lostL C.length (ar.drop i.toNat) b1 = lostL C.length ar b := hf
  have hk : decide (i < zl) = true → i < ar.length := by simp only [decide_eq_true_eq]; omega
  have hki : decide (i < zl) = true → i + 1 ≤ zl ∧ i < 9223372036854775806 := by simp only [decide_eq_true_eq]; omega
  have hdr : ∀ x, ar[i.toNat]? = some x → ar.drop i.toNat = x :: ar.drop (i + 1).toNat := by
    intro x hx
    rw [List.drop_eq_getElem_cons (List.getElem?_eq_some_iff.1 hx).1, (List.getElem?_eq_some_iff.1 hx).2, show (i + 1).toNat = i.toNat + 1 by omega]
  have hpc : ∀ (op' m' vk' vn' : Int) (vs' : ByteArray) (ar' : List Ex) (es' : List (List PV)), ar[i.toNat]? = some (.mk op' m' ⟨vk', vn', vs'⟩ ar') → ar'.map Ex.cells = es' → ∃ b2, lostE C.length (.mk op' m' ⟨vk', vn', vs'⟩ ar') b1 = b2 ∧
      ACall Tryz.prog 26 [.p (.agg [.int .i64 op', .int .i64 m', .int .i64 vk', .int .i64 vn', .str vs', .sl es']), .fn 27 [.ref 0 0, .ref 1 0]] (lostH b1 C) fun r H' => r = .tup [] ∧ takeX H' 2 = lostH b2 C := by
    intro op' m' vk' vn' vs' ar' es' hx he
    exact IH _ (List.mem_of_getElem? hx) _ b1 (by rw [cells_mk, he])
  have hlast := lost_c C op m vk vn vs es b1
  obtain ⟨bl, hbl⟩ : ∃ q, lost1 C.length op m b1 = q := ⟨_, rfl⟩
  rw [hbl] at hlast
  repeat' (first
    | (with_reducible refine Nm.mk ?_; intro z hz)
    | (with_reducible refine IfB.mk ?_ ?_ <;> (intro h; cases h))
    | (with_reducible refine Two.l ?_; refine Asm.mk ?_ ?_; focus (decide +kernel))
    | (with_reducible refine Two.r ?_)
    | (with_reducible refine Asm.mk ?_ ?_; focus (show (_ : Bool) = true; kernel_rfl))
    | (with_reducible refine Ix.ex hes hi0 (hk (by assumption)) ?_; intro op' m' vk' vn' vs' ar' es' hx hes')
    | (with_reducible refine isCC hcc ?_; obtain ⟨b2, hb2, hcall⟩ := hpc _ _ _ _ _ _ _ hx hes'; refine frameK (H1 := lostH b2 C) hcc [0, 1] hcall rfl rfl rfl rfl rfl rfl rfl ?_)
    | (with_reducible refine isCC hcc ?_; refine frameK (H1 := lostH bl C) hcc [0, 1] hlast rfl rfl rfl rfl rfl rfl rfl ?_)
    | (with_reducible refine Asm.mk2 ?_ ?_)
    | ((fail_if_success (with_reducible first | refine hQ _ _ ?_ | refine Side.mk ?_ | refine isCP hcp ?_ | refine isCC hcc ?_ | refine isLP hlp ?_ | refine Ix.mk ?_ | refine SIx.mk ?_ | refine SEx.mk ?_ | refine EIx.mk ?_ | refine RIx.mk ?_ | show False | refine hR ?_ _ ?_ ?_ ?_ ?_ ?_ | refine hR2 ?_ _ ?_ ?_ ?_ ?_ ?_)); cbv))
  · have hlt := hki (by assumption)
    have hwi : IntKind.i64.wrap (i + 1) = i + 1 := wrap_in (by omega)
    rw [hwi] at hz
    rw [hdr _ hx, lostL, hb2] at hf
    exact hR (i + 1, b2) _ ⟨⟨by show 0 ≤ i + 1; omega, by show i + 1 ≤ zl; omega⟩, hf⟩ (by show (zl - (i + 1)).toNat < (zl - i).toNat; omega) ⟨hz ▸ rfl, trivial⟩ ⟨rfl, rfl, rfl, rfl, trivial⟩ rfl
  · have hge : ar.length ≤ i.toNat := by
      have : decide (i < zl) = false := by assumption
      simp only [decide_eq_false_iff_not] at this
      omega
    rw [List.drop_eq_nil_of_le hge, lostL] at hf
    rw [← hf, hbl] at hq
    refine hQ _ _ ⟨rfl, ?_⟩
    rw [← hq]; rfl
theorem each_all (C : List (List PV)) : ∀ (m : Nat) (e : Ex), e.sz ≤ m → e.wide → EachC C e
  | 0, .mk op m v ar, h, _ => by simp [Ex.sz] at h
  | k + 1, .mk op m ⟨vk, vn, vs⟩ ar, h, hw => by
    intro cells b he
    rw [cells_mk] at he
    subst he
    have hwi : wideN ar.length ∧ wideL ar := by rw [Ex.wide] at hw; exact hw
    have hwn : wideN ar.length := hwi.1
    unfold wideN at hwn
    refine ⟨_, rfl, each_c C op m vk vn vs ar _ rfl (by omega) (fun x hx => each_all C k x ?_ (wide_mem hwi.2 hx)) b _ rfl⟩
    have := sz_mem hx
    simp only [Ex.sz] at h; omega
end Go.Proofs.YtnhmnfokbinplaaGreat

namespace Go.Proofs.YtnhmnfokbinplaaGreat
open Go Go.RowKit
set_option maxRecDepth 100000
set_option linter.unusedSimpArgs false
set_option linter.unusedVariables false

def badH (b : Bool) : List AObj := [.cells [.p (.bool b)]]
theorem fit_c (x y : Int) (b b' : Bool) (hb : (b || !pairK x y) = b') :
    ACall Tryz.prog 28 [.p (.int .i64 x), .p (.int .i64 y), .ref 0 0] (badH b) fun r H' => r = .p (.int .i64 (mx x y)) ∧ takeX H' 1 = badH b' := by
  obtain ⟨q, hq⟩ : ∃ q, mx x y = q := ⟨_, rfl⟩
  rw [hq]
  have pf : (!decide (x = y)) = true → (!decide (x = 0)) = true → (!decide (y = 0)) = true → b' = true := by
    intro h1 h2 h3
    have e1 : decide (x = y) = false := by cases h : decide (x = y) <;> rw [h] at h1 <;> first | rfl | cases h1
    have e2 : decide (x = 0) = false := by cases h : decide (x = 0) <;> rw [h] at h2 <;> first | rfl | cases h2
    have e3 : decide (y = 0) = false := by cases h : decide (y = 0) <;> rw [h] at h3 <;> first | rfl | cases h3
    rw [← hb, pairK, e1, e2, e3]; cases b <;> rfl
  have pt : (!decide (x = y)) = false ∨ (!decide (x = 0)) = false ∨ (!decide (y = 0)) = false → b' = b := by
    intro h
    have e1 : pairK x y = true := by
      rw [pairK]
      rcases h with h | h | h
      · have : decide (x = y) = true := by cases h2 : decide (x = y) <;> rw [h2] at h <;> first | rfl | cases h
        rw [this]; rfl
      · have : decide (x = 0) = true := by cases h2 : decide (x = 0) <;> rw [h2] at h <;> first | rfl | cases h
        rw [this]; cases decide (x = y) <;> rfl
      · have : decide (y = 0) = true := by cases h2 : decide (y = 0) <;> rw [h2] at h <;> first | rfl | cases h
        rw [this]; cases decide (x = y) <;> cases decide (x = 0) <;> rfl
    rw [← hb, e1]; cases b <;> rfl
  clear hb
  refine ACall.x (nt := 20) (res := [.tmp 5]) mixed tt_ok [] Tryz.func28 rfl rfl rfl c28 (Nat.le_of_ble_eq_true rfl) ?_
  intro cp cc lp Q' hcp hcc hlp hQ
  repeat' (first
    | (with_reducible refine Nm.mk ?_; intro z hz)
    | (with_reducible refine IfB.mk ?_ ?_ <;> (intro h; cases h))
    | (with_reducible refine Two.l ?_; refine Asm.mk ?_ ?_; focus (decide +kernel))
    | (with_reducible refine Two.r ?_)
    | (with_reducible refine Asm.mk ?_ ?_; focus (first | kernel_rfl | decide))
    | (with_reducible refine Asm.mk2 ?_ ?_)
    | ((fail_if_success (with_reducible first | refine hQ _ _ ?_ | refine Side.mk ?_ | refine isCP hcp ?_ | refine isCC hcc ?_ | refine isLP hlp ?_ | refine Ix.mk ?_ | refine SIx.mk ?_ | refine SEx.mk ?_ | refine EIx.mk ?_ | refine RIx.mk ?_ | show False | refine hR ?_ _ ?_ ?_ ?_ ?_ ?_ | refine hR2 ?_ _ ?_ ?_ ?_ ?_ ?_)); cbv))
  all_goals
    (have e : z = q := by rw [← hz, ← hq]; rfl
     subst e
     refine hQ _ _ ⟨rfl, ?_⟩
     first
       | (rw [pf (by assumption) (by assumption) (by assumption)]; rfl)
       | (rw [pt (by first | exact .inl (by assumption) | exact .inr (.inl (by assumption)) | exact .inr (.inr (by assumption)))]; rfl))
end Go.Proofs.YtnhmnfokbinplaaGreat

namespace Go.Proofs.YtnhmnfokbinplaaGreat
open Go Go.RowKit
set_option maxRecDepth 100000
set_option linter.unusedSimpArgs false
set_option linter.unusedVariables false

def g0 (l : List Int) (i : Nat) : Int := (l[i]?).getD 0
def kindO (K : List Int) (op m : Int) (v : Val) (l : List Int) (b : Bool) : Int × Bool :=
  if op = 1 then (g0 K m.toNat, b) else if op = 2 then ((clean v).k, b) else if op = 5 then (1, b)
  else if op = 6 then (1, b || !pairK (g0 l 0) 2)
  else if op = 18 then (2, b || !pairK (g0 l 0) 2 || !pairK (g0 l 1) 2)
  else if 12 ≤ op ∧ op ≤ 17 then (1, b || !pairK (g0 l 0) (g0 l 1))
  else if op = 21 then (mx (g0 l 1) (g0 l 2), b || !pairK (g0 l 0) 1 || !pairK (g0 l 1) (g0 l 2))
  else (1, b || !fitK 1 l)
mutual
def kindF (K : List Int) : Ex → Bool → Int × Bool
  | .mk op m v ar, b => kindO K op m v (kindFL K ar b).1 (kindFL K ar b).2
def kindFL (K : List Int) : List Ex → Bool → List Int × Bool
  | [], b => ([], b)
  | e :: r, b => ((kindF K e b).1 :: (kindFL K r (kindF K e b).2).1, (kindFL K r (kindF K e b).2).2)
end
theorem kindO_true (K : List Int) (op m : Int) (v : Val) (l : List Int) : (kindO K op m v l true).2 = true := by
  unfold kindO
  (repeat' split) <;> simp
mutual
theorem kindF_true (K : List Int) : ∀ e : Ex, (kindF K e true).2 = true
  | .mk op m v ar => by rw [kindF, kindFL_true K ar]; exact kindO_true _ _ _ _ _
theorem kindFL_true (K : List Int) : ∀ l : List Ex, (kindFL K l true).2 = true
  | [] => rfl
  | e :: r => by rw [kindFL]; show (kindFL K r (kindF K e true).2).2 = true; rw [kindF_true K e]; exact kindFL_true K r
end
theorem pair_fit (a w : Int) (hw : w ≠ 0) : pairK a w = (decide (a = w) || decide (a = 0)) := by
  unfold pairK
  rw [show decide (w = 0) = false by simpa using hw, Bool.or_false]
theorem kindL_len (K : List Int) : ∀ (l : List Ex) (r : List Int), kindL K l = some r → r.length = l.length
  | [], r, h => by simp only [kindL, Option.some.injEq] at h; subst h; rfl
  | e :: t, r, h => by
    rw [kindL] at h
    split at h
    · cases hk : kindL K t with
      | none => rw [hk] at h; simp at h
      | some r' =>
        rw [hk] at h
        simp only [Option.map_some, Option.some.injEq] at h
        subst h
        simp [kindL_len K t r' hk]
    · cases h
theorem kindO_some {K : List Int} {op m : Int} {v : Val} {l : List Int} {ar : List Ex} (hl : kindL K ar = some l) (ha : arityE op = (ar.length : Int)) (b : Bool) :
    ((kindE K (.mk op m v ar)).2 = true → kindO K op m v l b = ((kindE K (.mk op m v ar)).1, b)) ∧ ((kindE K (.mk op m v ar)).2 = false → (kindO K op m v l b).2 = true) := by
  have hn := kindL_len K ar l hl
  rw [kindE, hl]
  dsimp only
  unfold kindO
  have two : ∀ o, arityE o = 2 → op = o → ∃ x y, l = [x, y] := by
    rintro o h rfl
    match l, (by omega : l.length = 2) with
    | [x, y], _ => exact ⟨x, y, rfl⟩
  have one : ∀ o, arityE o = 1 → op = o → ∃ x, l = [x] := by
    rintro o h rfl
    match l, (by omega : l.length = 1) with
    | [x], _ => exact ⟨x, rfl⟩
  by_cases h1 : op = 1
  · rw [if_pos h1, if_pos h1]; exact ⟨fun _ => rfl, fun h => by cases h⟩
  by_cases h2 : op = 2
  · rw [if_neg h1, if_neg h1, if_pos h2, if_pos h2]; exact ⟨fun _ => rfl, fun h => by cases h⟩
  by_cases h5 : op = 5
  · rw [if_neg h1, if_neg h1, if_neg h2, if_neg h2, if_pos h5, if_pos h5]; exact ⟨fun _ => rfl, fun h => by cases h⟩
  by_cases h6 : op = 6
  · obtain ⟨x, rfl⟩ := one 6 rfl h6
    simp only [if_neg h1, if_neg h2, if_neg h5, if_pos h6, fitK, List.all_cons, List.all_nil, Bool.and_true, g0, List.getElem?_cons_zero, Option.getD_some, pair_fit x 2 (by decide)]
    refine ⟨fun h => ?_, fun h => ?_⟩ <;> rw [h] <;> simp
  by_cases h18 : op = 18
  · obtain ⟨x, y, rfl⟩ := two 18 rfl h18
    simp only [if_neg h1, if_neg h2, if_neg h5, if_neg h6, if_pos h18, fitK, List.all_cons, List.all_nil, Bool.and_true, g0, List.getElem?_cons_zero, List.getElem?_cons_succ, Option.getD_some, pair_fit x 2 (by decide), pair_fit y 2 (by decide)]
    generalize (decide (x = 2) || decide (x = 0)) = p
    generalize (decide (y = 2) || decide (y = 0)) = q
    cases p <;> cases q <;> cases b <;> decide
  by_cases hc : 12 ≤ op ∧ op ≤ 17
  · simp only [if_neg h1, if_neg h2, if_neg h5, if_neg h6, if_neg h18, if_pos hc]
    refine ⟨fun h => ?_, fun h => ?_⟩
    · rw [show pairK (g0 l 0) (g0 l 1) = true from h]; simp
    · rw [show pairK (g0 l 0) (g0 l 1) = false from h]; simp
  by_cases h21 : op = 21
  · simp only [if_neg h1, if_neg h2, if_neg h5, if_neg h6, if_neg h18, if_neg hc, if_pos h21, fitK, List.all_cons, List.all_nil, Bool.and_true, pair_fit (g0 l 0) 1 (by decide)]
    refine ⟨fun h => ?_, fun h => ?_⟩
    · rw [Bool.and_eq_true] at h
      have h1 : pairK (g0 l 1) (g0 l 2) = true := h.1
      have h2 : (decide (g0 l 0 = 1) || decide (g0 l 0 = 0)) = true := h.2
      rw [h1, h2]
      simp only [Bool.not_true, Bool.or_false]; rfl
    · rw [Bool.and_eq_false_iff] at h
      rcases h with h | h
      · have h1 : pairK (g0 l 1) (g0 l 2) = false := h
        rw [h1]; simp
      · have h1 : (decide (g0 l 0 = 1) || decide (g0 l 0 = 0)) = false := h
        rw [h1]; simp
  · simp only [if_neg h1, if_neg h2, if_neg h5, if_neg h6, if_neg h18, if_neg hc, if_neg h21]
    refine ⟨fun h => ?_, fun h => ?_⟩ <;> rw [h] <;> simp
mutual
theorem kindF_E (K : List Int) : ∀ (e : Ex) (n : Nat) (b : Bool), e.fine n → ((kindE K e).2 = true → kindF K e b = ((kindE K e).1, b)) ∧ ((kindE K e).2 = false → (kindF K e b).2 = true)
  | .mk op m v ar, n, b, hf => by
    rw [Ex.fine] at hf
    obtain ⟨f1, f2, f3⟩ := hf
    have hL := kindFL_E K ar n b f3
    cases hl : kindL K ar with
    | none =>
      rw [hl] at hL
      have hE : kindE K (.mk op m v ar) = (0, false) := by rw [kindE, hl]
      rw [hE, kindF, show (kindFL K ar b).2 = true from hL]
      exact ⟨fun h => (by cases h), fun _ => kindO_true _ _ _ _ _⟩
    | some l =>
      rw [hl] at hL
      rw [kindF, show kindFL K ar b = (l, b) from hL]
      exact kindO_some hl f1 b
theorem kindFL_E (K : List Int) : ∀ (l : List Ex) (n : Nat) (b : Bool), fineL n l → match kindL K l with | some r => kindFL K l b = (r, b) | none => (kindFL K l b).2 = true
  | [], n, b, hf => rfl
  | e :: t, n, b, hf => by
    rw [fineL] at hf
    have he := kindF_E K e n b hf.1
    rw [kindL, kindFL]
    rcases hk : kindE K e with ⟨k, g⟩
    rw [hk] at he
    cases g with
    | false =>
      show (kindFL K t (kindF K e b).2).2 = true
      rw [he.2 rfl]
      exact kindFL_true K t
    | true =>
      rw [he.1 rfl]
      have ht := kindFL_E K t n b hf.2
      cases hl : kindL K t with
      | none => rw [hl] at ht; exact ht
      | some r =>
        rw [hl] at ht
        show (k :: (kindFL K t b).1, (kindFL K t b).2) = (k :: r, b)
        rw [show kindFL K t b = (r, b) from ht]
end
/- What is lost, by either text. -/
mutual
theorem lostE_or (n : Nat) : ∀ (e : Ex) (b : Bool), lostE n e b = (b || lostK n e.cols)
  | .mk op m v ar, b => by
    rw [lostE, lostL_or n ar b, Ex.cols, lost1, lostK, lostK, List.any_append]
    by_cases h : op = 1
    · rw [if_pos h]; simp [h]
      cases b <;> cases (colsOf ar).any (fun c => decide ((n : Int) ≤ c)) <;> simp
    · rw [if_neg h]; simp [h]
theorem lostL_or (n : Nat) : ∀ (l : List Ex) (b : Bool), lostL n l b = (b || lostK n (colsOf l))
  | [], b => by simp [lostL, colsOf, lostK]
  | e :: r, b => by
    rw [lostL, lostE_or n e b, lostL_or n r, colsOf]
    simp only [lostK, List.any_append, Bool.or_assoc]
end
theorem insC_mem {x c : Int} {L : List Int} (h : c ∈ insC x L) : c ∈ L ∨ c = x := by
  rw [insC] at h
  split at h
  · exact .inl h
  · rcases List.mem_append.1 h with h | h
    · exact .inl (List.mem_of_mem_take h)
    · rcases List.mem_cons.1 h with h | h
      · exact .inr h
      · exact .inl (List.mem_of_mem_drop h)
mutual
theorem colsE_mem : ∀ (e : Ex) (L : List Int) (c : Int), c ∈ colsE e L → c ∈ L ∨ c ∈ e.cols
  | .mk op m v ar, L, c, h => by
    rw [colsE] at h
    rw [Ex.cols]
    by_cases h1 : op = 1
    · rw [if_pos h1] at h ⊢
      rcases colsL_mem ar _ c h with h | h
      · rcases insC_mem h with h | h
        · exact .inl h
        · exact .inr (by simp [h])
      · exact .inr (List.mem_append_right _ h)
    · rw [if_neg h1] at h ⊢
      rcases colsL_mem ar _ c h with h | h
      · exact .inl h
      · exact .inr (by simpa using h)
theorem colsL_mem : ∀ (l : List Ex) (L : List Int) (c : Int), c ∈ colsKL l L → c ∈ L ∨ c ∈ colsOf l
  | [], L, c, h => .inl h
  | e :: r, L, c, h => by
    rw [colsKL] at h
    rw [colsOf]
    rcases colsL_mem r _ c h with h | h
    · rcases colsE_mem e L c h with h | h
      · exact .inl h
      · exact .inr (List.mem_append_left _ h)
    · exact .inr (List.mem_append_right _ h)
end
theorem lostK_cols (n : Nat) (e : Ex) : lostK n (colsE e []) = lostE n e false := by
  rw [lostE_or, Bool.false_or, lostK, lostK, Bool.eq_iff_iff, List.any_eq_true, List.any_eq_true]
  constructor
  · rintro ⟨c, h1, h2⟩
    rcases colsE_mem e [] c h1 with h | h
    · simp at h
    · exact ⟨c, h, h2⟩
  · rintro ⟨c, h1, h2⟩
    exact ⟨c, mem_colsE e [] c (.inr h1), h2⟩
end Go.Proofs.YtnhmnfokbinplaaGreat

namespace Go.Proofs.YtnhmnfokbinplaaGreat
open Go Go.RowKit
set_option maxRecDepth 100000
set_option linter.unusedSimpArgs false
set_option linter.unusedVariables false

def kH (b : Bool) (C : List (List PV)) : List AObj := [.cells [.fn 29 [.ref 0 0, .ref 1 0, .ref 2 0]], .cells [.p (.sl C)], .cells [.fn 28 [.ref 3 0]], .cells [.p (.bool b)]]
def KindA (K : List Int) (C : List (List PV)) (e : Ex) : Prop := ∀ (cells : List PV) (b : Bool), e.cells = cells → ∃ k b', kindF K e b = (k, b') ∧
  ACall Tryz.prog 29 [.p (.agg cells), .ref 0 0, .ref 1 0, .ref 2 0] (kH b C) fun r H' => r = .p (.int .i64 k) ∧ takeX H' 4 = kH b' C
theorem fit_ex (x y : Int) (b : Bool) : ∃ z b', mx x y = z ∧ (b || !pairK x y) = b' ∧ ACall Tryz.prog 28 [.p (.int .i64 x), .p (.int .i64 y), .ref 0 0] (badH b) fun r H' => r = .p (.int .i64 z) ∧ takeX H' 1 = badH b' :=
  ⟨_, _, rfl, rfl, fit_c x y b _ rfl⟩
theorem g0_take {L : List Int} {i : Nat} {k : Int} (h : L[i]? = some k) : g0 (L.take (i + 1)) i = k ∧ ∀ j, j ≠ i → g0 (L.take (i + 1)) j = g0 (L.take i) j := by
  refine ⟨?_, fun j hj => ?_⟩
  · rw [g0, List.getElem?_take, if_pos (by omega), h]; rfl
  · rw [g0, g0, List.getElem?_take, List.getElem?_take]
    by_cases h1 : j < i
    · rw [if_pos (by omega), if_pos h1]
    · rw [if_neg (by omega), if_neg h1]
theorem kindFL_step {K : List Int} {ar : List Ex} {i : Nat} {x : Ex} {b1 b2 bF : Bool} {k2 : Int} {L : List Int} (h : kindFL K (ar.drop i) b1 = (L.drop i, bF)) (hx : ar.drop i = x :: ar.drop (i + 1)) (hk : kindF K x b1 = (k2, b2)) :
    kindFL K (ar.drop (i + 1)) b2 = (L.drop (i + 1), bF) ∧ L[i]? = some k2 := by
  rw [hx, kindFL, hk] at h
  simp only [Prod.mk.injEq] at h
  have h1 : L[i]? = some k2 := by
    have := congrArg (fun l => l[0]?) h.1
    simpa using this.symm
  refine ⟨?_, h1⟩
  have h2 := congrArg List.tail h.1
  simp only [List.tail_cons, List.tail_drop] at h2
  rw [← h2, ← h.2]

theorem sd0 : (0 : Int) ≤ 0 ∧ (0 : Int) < ((3 : Nat) : Int) ∧ ¬ (1 : Nat) = 0 := by decide
theorem sd1 : (0 : Int) ≤ 1 ∧ (1 : Int) < ((3 : Nat) : Int) ∧ ¬ (1 : Nat) = 0 := by decide
theorem sd2 : (0 : Int) ≤ 2 ∧ (2 : Int) < ((3 : Nat) : Int) ∧ ¬ (1 : Nat) = 0 := by decide
set_option maxHeartbeats 8000000 in
theorem kindA_c (K : List Int) (C : List (List PV)) (hC : K.map i64c = C) (op m vk vn : Int) (vs : ByteArray) (ar : List Ex) (es : List (List PV)) (hes : ar.map Ex.cells = es) (hal : (ar.length : Int) = arityE op) (hm : op = 1 → 0 ≤ m ∧ m < K.length) (IH : ∀ x, x ∈ ar → KindA K C x) (b0 : Bool) (k : Int) (b : Bool) (hq : kindF K (.mk op m ⟨vk, vn, vs⟩ ar) b0 = (k, b)) :
    ACall Tryz.prog 29 [.p (.agg [.int .i64 op, .int .i64 m, .int .i64 vk, .int .i64 vn, .str vs, .sl es]), .ref 0 0, .ref 1 0, .ref 2 0] (kH b0 C) fun r H' => r = .p (.int .i64 k) ∧ takeX H' 4 = kH b C := by
  have hel : es.length = ar.length := by rw [← hes]; simp
  have ha3 : arityE op ≤ 3 := by unfold arityE; (repeat' split) <;> omega
  have ha4 : ar.length ≤ 3 := by omega
  have hal2 : ar.length = (arityE op).toNat ∧ 0 ≤ arityE op := by omega
  clear hal
  rw [kindF] at hq
  obtain ⟨L, bF, hL⟩ : ∃ L bF, kindFL K ar b0 = (L, bF) := ⟨_, _, rfl⟩
  rw [hL] at hq
  dsimp only at hq
  have hLl : ∀ (l : List Ex) (b : Bool), (kindFL K l b).1.length = l.length := by
    intro l
    induction l with
    | nil => intro b; rfl
    | cons e r ih => intro b; rw [kindFL]; simp [ih]
  have hLn : L.length = ar.length := by have := hLl ar b0; rw [hL] at this; exact this
  clear hLl
  have hm0 : decide (op = 1) = true → (0 ≤ m ∧ m < (K.length : Int)) := by simp only [decide_eq_true_eq]; exact hm
  have hmk : decide (op = 1) = true → ∀ y, K[m.toNat]? = some y → g0 K m.toNat = y := by intro _ y h; rw [g0, h]; rfl
  refine ACall.x (nt := 94) (res := [.tmp 5]) mixed tt_ok [] Tryz.func29 rfl rfl rfl c29 (Nat.le_of_ble_eq_true rfl) ?_
  intro cp cc lp Q' hcp hcc hlp hQ
  repeat' (first
    | (with_reducible refine Nm.mk ?_; intro z hz)
    | (with_reducible refine IfB.mk ?_ ?_ <;> (intro h; cases h))
    | (with_reducible refine Two.l ?_; refine Asm.mk ?_ ?_; focus (decide +kernel))
    | (with_reducible refine Two.r ?_)
    | (with_reducible refine Asm.mk ?_ ?_; focus (first | kernel_rfl | decide))
    | (with_reducible refine Asm.mk2 ?_ ?_)
    | ((fail_if_success (with_reducible first | refine hQ _ _ ?_ | refine Side.mk ?_ | refine isCP hcp ?_ | refine isCC hcc ?_ | refine isLP hlp ?_ | refine Ix.mk ?_ | refine SIx.mk ?_ | refine SEx.mk ?_ | refine EIx.mk ?_ | refine RIx.mk ?_ | show False | refine hR ?_ _ ?_ ?_ ?_ ?_ ?_ | refine hR2 ?_ _ ?_ ?_ ?_ ?_ ?_)); cbv))
  simp only [nc] at hz
  simp only [nc'] at hz
  have hzl := lenZ (n := ar.length) hel hz
  clear hz
  generalize z = zl at *
  refine loopT (ι := Int × (Int × Int × Int) × Bool) mixed tt_ok hcp hcc hlp [1, 2, 3, 4, 6, 11, 12] (fun p => [(13, .p (.int .i64 p.1))]) (fun p => [.cells [.fn 29 [.ref 0 0, .ref 1 0, .ref 2 0]], .cells [.p (.sl C)], .cells [.fn 28 [.ref 3 0]], .cells [.p (.bool p.2.2)], .cells [.p (.int .i64 op), .p (.int .i64 m), .p (.int .i64 vk), .p (.int .i64 vn), .p (.str vs), .p (.sl es)], .cells [.p (.int .i64 p.2.1.1), .p (.int .i64 p.2.1.2.1), .p (.int .i64 p.2.1.2.2)]])
    (fun p => Rng ar.length zl p.1 ∧ kindFL K (ar.drop p.1.toNat) p.2.2 = (L.drop p.1.toNat, bF) ∧ g0 (L.take p.1.toNat) 0 = p.2.1.1 ∧ g0 (L.take p.1.toNat) 1 = p.2.1.2.1 ∧ g0 (L.take p.1.toNat) 2 = p.2.1.2.2) (fun p => (zl - p.1).toNat) (0, (0, 0, 0), b0) 6 (fun _ => rfl)
    ⟨Rng.start hzl (by omega), hL, rfl, rfl, rfl⟩ ⟨rfl, trivial⟩ rfl ?_
  rintro R ⟨i, ⟨x0, x1, x2⟩, b1⟩ ⟨rg, hf, hx0, hx1, hx2⟩ hR
  replace rg : Rng ar.length zl i := rg
  replace hf : kindFL K (ar.drop i.toNat) b1 = (L.drop i.toNat, bF) := hf
  replace hx0 : g0 (L.take i.toNat) 0 = x0 := hx0
  replace hx1 : g0 (L.take i.toNat) 1 = x1 := hx1
  replace hx2 : g0 (L.take i.toNat) 2 = x2 := hx2
  have hpc : ∀ (op' m' vk' vn' : Int) (vs' : ByteArray) (ar' : List Ex) (es' : List (List PV)), ar[i.toNat]? = some (.mk op' m' ⟨vk', vn', vs'⟩ ar') → ar'.map Ex.cells = es' → ∃ k2 b2, kindF K (.mk op' m' ⟨vk', vn', vs'⟩ ar') b1 = (k2, b2) ∧
      ACall Tryz.prog 29 [.p (.agg [.int .i64 op', .int .i64 m', .int .i64 vk', .int .i64 vn', .str vs', .sl es']), .ref 0 0, .ref 1 0, .ref 2 0] (kH b1 C) fun r H' => r = .p (.int .i64 k2) ∧ takeX H' 4 = kH b2 C := by
    intro op' m' vk' vn' vs' ar' es' hx he
    exact IH _ (List.mem_of_getElem? hx) _ b1 (by rw [cells_mk, he])
  have h3i : decide (i < zl) = true → 0 ≤ i ∧ i < ((3 : Nat) : Int) ∧ ¬ (1 : Nat) = 0 := by intro h; have := rg.ltN h; have := rg.lo; omega
  have h3 : decide (i < zl) = true → ∀ v, 0 + i.toNat * 1 = v → v = 0 ∨ v = 1 ∨ v = 2 := by intro h; have := rg.ltN h; omega
  have hend : decide (i < zl) = false → bF = b1 ∧ g0 L 0 = x0 ∧ g0 L 1 = x1 ∧ g0 L 2 = x2 := by
    intro h
    rw [rg.end_ rfl h, kindFL] at hf
    rw [rg.take_ hLn h] at hx0 hx1 hx2
    exact ⟨by simp only [Prod.mk.injEq] at hf; exact hf.2.symm, hx0, hx1, hx2⟩
  obtain ⟨yA, bA, hyA, hbA, cA⟩ := fit_ex x0 2 b1
  obtain ⟨yB, bB, hyB, hbB, cB⟩ := fit_ex x1 2 bA
  obtain ⟨yC, bC, hyC, hbC, cC⟩ := fit_ex x0 x1 b1
  obtain ⟨yD, bD, hyD, hbD, cD⟩ := fit_ex x0 1 b1
  obtain ⟨yE, bE, hyE, hbE, cE⟩ := fit_ex x1 x2 bD
  repeat' (first
    | (with_reducible refine Nm.lit 0 (by with_unfolding_all rfl) ?_)
    | (with_reducible refine Nm.lit 1 (by with_unfolding_all rfl) ?_)
    | (with_reducible refine Nm.lit 2 (by with_unfolding_all rfl) ?_)
    | (with_reducible refine Nm.three (h3 (by assumption) _ rfl) ?_ ?_ ?_ <;> intro hoff)
    | (with_reducible refine Nm.mk ?_; intro z hz)
    | (with_reducible refine IfB.mk ?_ ?_ <;> (intro h; cases h))
    | (with_reducible refine Two.l ?_; refine Asm.mk ?_ ?_; focus (decide +kernel))
    | (with_reducible refine Two.r ?_)
    | (with_reducible refine Asm.mk ?_ ?_; focus (show (_ : Bool) = true; kernel_rfl))
    | (with_reducible refine isCP hcp ?_; first | (refine vP hcp (clean_c vk vn vs) ?_; intro v hv))
    | (with_reducible refine isCC hcc ?_; first | (refine vA hcc (clean_c vk vn vs) rfl ?_; intro v hv))
    | (with_reducible refine Ix.ex hes rg.lo (rg.lt (by assumption)) ?_; intro op' m' vk' vn' vs' ar' es' hx hes')
    | (with_reducible refine Ix.map hC i64c_len (by decide) (hm0 (by assumption)).1 (hm0 (by assumption)).2 ?_; intro xk hxk)
    | (with_reducible refine isCC hcc ?_; obtain ⟨k2, b2, hk2, hcall⟩ := hpc _ _ _ _ _ _ _ hx hes'; refine frameK (H1 := kH b2 C) hcc [0, 1, 2, 3] hcall rfl rfl rfl rfl rfl rfl rfl ?_)
    | (with_reducible refine isCC hcc ?_; first | refine frameK (H1 := badH bA) hcc [3] cA rfl rfl rfl rfl rfl rfl rfl ?_ | refine frameK (H1 := badH bB) hcc [3] cB rfl rfl rfl rfl rfl rfl rfl ?_ | refine frameK (H1 := badH bC) hcc [3] cC rfl rfl rfl rfl rfl rfl rfl ?_ | refine frameK (H1 := badH bD) hcc [3] cD rfl rfl rfl rfl rfl rfl rfl ?_ | refine frameK (H1 := badH bE) hcc [3] cE rfl rfl rfl rfl rfl rfl rfl ?_)
    | (with_reducible refine Asm.mk2 ?_ ?_)
    | ((fail_if_success (with_reducible first | refine hQ _ _ ?_ | refine Side.mk ?_ | refine isCP hcp ?_ | refine isCC hcc ?_ | refine isLP hlp ?_ | refine Ix.mk ?_ | refine SIx.mk ?_ | refine SEx.mk ?_ | refine EIx.mk ?_ | refine RIx.mk ?_ | show False | refine hR ?_ _ ?_ ?_ ?_ ?_ ?_ | refine hR2 ?_ _ ?_ ?_ ?_ ?_ ?_)); cbv))

  all_goals (try (refine Side.mk ?_; first | exact sd0 | exact sd1 | exact sd2 | exact h3i (by assumption)))
  · have hlt : decide (i < zl) = true := by assumption
    have hi : i.toNat = 0 := by omega
    obtain ⟨s1, s2⟩ := kindFL_step (i := i.toNat) hf (by rw [← rg.toNat]; exact rg.step hx) hk2
    have gt := g0_take s2
    rw [rg.wrap hlt] at hz
    rw [hi] at gt hx0 hx1 hx2 s1 s2
    refine hR (i + 1, (k2, x1, x2), b2) _ ⟨rg.next hlt, by rw [rg.toNat, hi]; exact s1, ?_, ?_, ?_⟩ (rg.less hlt) ⟨hz ▸ rfl, trivial⟩ ⟨rfl, rfl, rfl, rfl, rfl, rfl, rfl, trivial⟩ rfl
    · show g0 (L.take (i + 1).toNat) 0 = _
      rw [rg.toNat, hi]; first | exact gt.1 | (rw [gt.2 0 (by decide)]; exact hx0)
    · show g0 (L.take (i + 1).toNat) 1 = _
      rw [rg.toNat, hi]; first | exact gt.1 | (rw [gt.2 1 (by decide)]; exact hx1)
    · show g0 (L.take (i + 1).toNat) 2 = _
      rw [rg.toNat, hi]; first | exact gt.1 | (rw [gt.2 2 (by decide)]; exact hx2)
  · have hlt : decide (i < zl) = true := by assumption
    have hi : i.toNat = 1 := by omega
    obtain ⟨s1, s2⟩ := kindFL_step (i := i.toNat) hf (by rw [← rg.toNat]; exact rg.step hx) hk2
    have gt := g0_take s2
    rw [rg.wrap hlt] at hz
    rw [hi] at gt hx0 hx1 hx2 s1 s2
    refine hR (i + 1, (x0, k2, x2), b2) _ ⟨rg.next hlt, by rw [rg.toNat, hi]; exact s1, ?_, ?_, ?_⟩ (rg.less hlt) ⟨hz ▸ rfl, trivial⟩ ⟨rfl, rfl, rfl, rfl, rfl, rfl, rfl, trivial⟩ rfl
    · show g0 (L.take (i + 1).toNat) 0 = _
      rw [rg.toNat, hi]; first | exact gt.1 | (rw [gt.2 0 (by decide)]; exact hx0)
    · show g0 (L.take (i + 1).toNat) 1 = _
      rw [rg.toNat, hi]; first | exact gt.1 | (rw [gt.2 1 (by decide)]; exact hx1)
    · show g0 (L.take (i + 1).toNat) 2 = _
      rw [rg.toNat, hi]; first | exact gt.1 | (rw [gt.2 2 (by decide)]; exact hx2)
  · have hlt : decide (i < zl) = true := by assumption
    have hi : i.toNat = 2 := by omega
    obtain ⟨s1, s2⟩ := kindFL_step (i := i.toNat) hf (by rw [← rg.toNat]; exact rg.step hx) hk2
    have gt := g0_take s2
    rw [rg.wrap hlt] at hz
    rw [hi] at gt hx0 hx1 hx2 s1 s2
    refine hR (i + 1, (x0, x1, k2), b2) _ ⟨rg.next hlt, by rw [rg.toNat, hi]; exact s1, ?_, ?_, ?_⟩ (rg.less hlt) ⟨hz ▸ rfl, trivial⟩ ⟨rfl, rfl, rfl, rfl, rfl, rfl, rfl, trivial⟩ rfl
    · show g0 (L.take (i + 1).toNat) 0 = _
      rw [rg.toNat, hi]; first | exact gt.1 | (rw [gt.2 0 (by decide)]; exact hx0)
    · show g0 (L.take (i + 1).toNat) 1 = _
      rw [rg.toNat, hi]; first | exact gt.1 | (rw [gt.2 1 (by decide)]; exact hx1)
    · show g0 (L.take (i + 1).toNat) 2 = _
      rw [rg.toNat, hi]; first | exact gt.1 | (rw [gt.2 2 (by decide)]; exact hx2)
  rotate_right
  · obtain ⟨e1, e2, e3, e4⟩ := hend (by assumption)
    have hq2 : (1, bF || !fitK 1 L) = (k, b) := by
      rw [← hq, kindO]
      clear hQ hR hcp hcc hlp hpc IH hend hz
      simp only [decide_eq_true_eq, decide_eq_false_iff_not] at *
      repeat rw [if_neg (by omega)]
    rw [e1] at hq2
    simp only [Prod.mk.injEq] at hq2
    obtain ⟨q1, q2⟩ := hq2
    clear hR hpc h3 h3i cA cB cC cD cE hbA hbB hbC hbD hbE hyA hyB hyC hyD hyE
    simp only [nc] at hz
    simp only [nc'] at hz
    have hyl := lenZ (n := ar.length) hel hz
    clear hz
    rename Int => yl
    refine loopT (ι := Int × Bool) mixed tt_ok hcp hcc hlp [1, 2, 3, 4, 6, 27, 28] (fun p => [(29, .p (.int .i64 p.1))]) (fun p => [.cells [.fn 29 [.ref 0 0, .ref 1 0, .ref 2 0]], .cells [.p (.sl C)], .cells [.fn 28 [.ref 3 0]], .cells [.p (.bool p.2)], .cells [.p (.int .i64 op), .p (.int .i64 m), .p (.int .i64 vk), .p (.int .i64 vn), .p (.str vs), .p (.sl es)], .cells [.p (.int .i64 x0), .p (.int .i64 x1), .p (.int .i64 x2)]])
      (fun p => Rng ar.length yl p.1 ∧ (b1 || !fitK 1 (L.take p.1.toNat)) = p.2) (fun p => (yl - p.1).toNat) (0, b1) 6 (fun _ => rfl)
      ⟨Rng.start hyl (by omega), by show (b1 || !fitK 1 []) = b1; simp [fitK]⟩ ⟨rfl, trivial⟩ rfl ?_
    rintro R ⟨j, b2⟩ ⟨rj, hb⟩ hR
    replace rj : Rng ar.length yl j := rj
    replace hb : (b1 || !fitK 1 (L.take j.toNat)) = b2 := hb
    have h3i : decide (j < yl) = true → 0 ≤ j ∧ j < ((3 : Nat) : Int) ∧ ¬ (1 : Nat) = 0 := by intro h; have := rj.ltN h; have := rj.lo; omega
    have h3 : decide (j < yl) = true → ∀ v, 0 + j.toNat * 1 = v → v = 0 ∨ v = 1 ∨ v = 2 := by intro h; have := rj.ltN h; omega
    obtain ⟨yA, bA, hyA, hbA, cA⟩ := fit_ex x0 1 b2
    obtain ⟨yB, bB, hyB, hbB, cB⟩ := fit_ex x1 1 b2
    obtain ⟨yC, bC, hyC, hbC, cC⟩ := fit_ex x2 1 b2
    have hstep : ∀ (n : Nat) (x : Int) (b3 : Bool), j.toNat = n → decide (j < yl) = true → g0 L n = x → (b2 || !pairK x 1) = b3 → (b1 || !fitK 1 (L.take (j + 1).toNat)) = b3 := by
      rintro n x b3 hj hlt hx hb3
      have hl : j.toNat < L.length := by have := rj.ltN hlt; omega
      have hxx : L[j.toNat]? = some x := by rw [← hx, g0, ← hj, List.getElem?_eq_getElem hl]; rfl
      rw [rj.take hxx, ← hb3, ← hb, pair_fit x 1 (by decide)]
      simp only [fitK, List.all_append, List.all_cons, List.all_nil, Bool.and_true]
      cases b1 <;> cases (L.take j.toNat).all (fun k => decide (k = 1) || decide (k = 0)) <;> cases (decide (x = 1) || decide (x = 0)) <;> rfl
    have hfin : decide (j < yl) = false → b2 = b := by
      intro h
      rw [rj.take_ hLn h] at hb
      rw [← hb]; exact q2
    repeat' (first
      | (with_reducible refine Nm.lit 0 (by with_unfolding_all rfl) ?_)
      | (with_reducible refine Nm.lit 1 (by with_unfolding_all rfl) ?_)
      | (with_reducible refine Nm.lit 2 (by with_unfolding_all rfl) ?_)
      | (with_reducible refine Nm.three (h3 (by assumption) _ rfl) ?_ ?_ ?_ <;> intro hoff)
      | (with_reducible refine Nm.mk ?_; intro z hz)
      | (with_reducible refine IfB.mk ?_ ?_ <;> (intro h; cases h))
      | (with_reducible refine Two.l ?_; refine Asm.mk ?_ ?_; focus (decide +kernel))
      | (with_reducible refine Two.r ?_)
      | (with_reducible refine Asm.mk ?_ ?_; focus (show (_ : Bool) = true; kernel_rfl))
      | (with_reducible refine isCC hcc ?_; first | refine frameK (H1 := badH bA) hcc [3] cA rfl rfl rfl rfl rfl rfl rfl ?_ | refine frameK (H1 := badH bB) hcc [3] cB rfl rfl rfl rfl rfl rfl rfl ?_ | refine frameK (H1 := badH bC) hcc [3] cC rfl rfl rfl rfl rfl rfl rfl ?_)
      | (with_reducible refine Asm.mk2 ?_ ?_)
      | ((fail_if_success (with_reducible first | refine hQ _ _ ?_ | refine Side.mk ?_ | refine isCP hcp ?_ | refine isCC hcc ?_ | refine isLP hlp ?_ | refine Ix.mk ?_ | refine SIx.mk ?_ | refine SEx.mk ?_ | refine EIx.mk ?_ | refine RIx.mk ?_ | show False | refine hR ?_ _ ?_ ?_ ?_ ?_ ?_ | refine hR2 ?_ _ ?_ ?_ ?_ ?_ ?_)); cbv))
    all_goals (try (refine Side.mk ?_; first | exact sd0 | exact sd1 | exact sd2 | exact h3i (by assumption)))
    · have hlt : decide (j < yl) = true := by assumption
      rw [rj.wrap hlt] at hz
      exact hR (j + 1, _) _ ⟨rj.next hlt, hstep 0 _ _ (by omega) hlt e2 hbA⟩ (rj.less hlt) ⟨hz ▸ rfl, trivial⟩ ⟨rfl, rfl, rfl, rfl, rfl, rfl, rfl, trivial⟩ rfl
    · have hlt : decide (j < yl) = true := by assumption
      rw [rj.wrap hlt] at hz
      exact hR (j + 1, _) _ ⟨rj.next hlt, hstep 1 _ _ (by omega) hlt e3 hbB⟩ (rj.less hlt) ⟨hz ▸ rfl, trivial⟩ ⟨rfl, rfl, rfl, rfl, rfl, rfl, rfl, trivial⟩ rfl
    · have hlt : decide (j < yl) = true := by assumption
      rw [rj.wrap hlt] at hz
      exact hR (j + 1, _) _ ⟨rj.next hlt, hstep 2 _ _ (by omega) hlt e4 hbC⟩ (rj.less hlt) ⟨hz ▸ rfl, trivial⟩ ⟨rfl, rfl, rfl, rfl, rfl, rfl, rfl, trivial⟩ rfl
    · have hbb := hfin (by assumption)
      subst hbb
      refine hQ _ _ ⟨?_, rfl⟩
      rw [← q1]; rfl
  all_goals
    (obtain ⟨e1, e2, e3, e4⟩ := hend (by assumption)
     have hq2 := hq
     rw [kindO] at hq2
     have hxk' : ∀ xk, decide (op = 1) = true → K[m.toNat]? = some xk → g0 K m.toNat = xk := fun xk h1 h2 => hmk h1 _ h2
     clear hR hcp hcc hlp hpc IH hend hmk hq hL h3 h3i cA cB cC cD cE hf hx0 hx1 hx2
     simp only [e1, e2, e3, e4] at hq2
     simp only [hbA, hbC, hbD] at hq2
     simp only [hbB, hbE] at hq2
     simp only [decide_eq_true_eq, decide_eq_false_iff_not] at *
     repeat (first | rw [if_pos (by omega)] at hq2 | rw [if_neg (by omega)] at hq2)
     simp only [Prod.mk.injEq] at hq2
     obtain ⟨q1, q2⟩ := hq2
     first
       | (refine hQ _ _ ⟨?_, ?_⟩
          · first
              | (rw [← q1]; rfl)
              | (rw [← q1, hyE]; rfl)
              | (rw [← q1, hxk' _ (by assumption) (by assumption)]; rfl)
              | (rename_i hv _; rw [← q1, hv]; rfl)
              | (rw [← q1, hv]; rfl)
          · rw [← q2]; rfl))
end Go.Proofs.YtnhmnfokbinplaaGreat

namespace Go.Proofs.YtnhmnfokbinplaaGreat
open Go Go.RowKit
set_option maxRecDepth 100000
set_option linter.unusedSimpArgs false
set_option linter.unusedVariables false

theorem kindA_all (K : List Int) (C : List (List PV)) (hC : K.map i64c = C) : ∀ (n : Nat) (e : Ex), e.sz ≤ n → e.fine K.length → KindA K C e
  | 0, .mk op m v ar, h, _ => by simp [Ex.sz] at h
  | n + 1, .mk op m ⟨vk, vn, vs⟩ ar, h, hf => by
    intro cells b he
    rw [cells_mk] at he
    subst he
    rw [Ex.fine] at hf
    obtain ⟨f1, f2, f3⟩ := hf
    refine ⟨_, _, rfl, kindA_c K C hC op m vk vn vs ar _ rfl f1.symm f2 (fun x hx => kindA_all K C hC n x ?_ (fine_mem f3 hx)) b _ _ rfl⟩
    have := sz_mem hx
    simp only [Ex.sz] at h; omega

set_option maxHeartbeats 4000000 in
theorem ekind_c (K : List Int) (C : List (List PV)) (hC : K.map i64c = C) (op n vk vn : Int) (vs : ByteArray) (ar : List Ex) (es : List (List PV)) (hes : ar.map Ex.cells = es) (hw : (Ex.mk op n ⟨vk, vn, vs⟩ ar).wide) :
    PCall Tryz.prog 6 [.agg [.int .i64 op, .int .i64 n, .int .i64 vk, .int .i64 vn, .str vs, .sl es], .sl C] fun r => r = [.int .i64 (kindM K (.mk op n ⟨vk, vn, vs⟩ ar)).1, .int .i64 (kindM K (.mk op n ⟨vk, vn, vs⟩ ar)).2] := by
  refine PCall.know c6 fun hkn => ?_
  have k1 : C.length ≤ maxLen := hkn (.sl C) (by simp)
  clear hkn
  rw [maxLen_eq] at k1
  have b1 : C.length = K.length := by rw [← hC]; simp
  have hbc := ebuilt_c op n vk vn vs ar es hes
  obtain ⟨e, he⟩ : ∃ e, Ex.mk op n ⟨vk, vn, vs⟩ ar = e := ⟨_, rfl⟩
  have hce : e.cells = [.int .i64 op, .int .i64 n, .int .i64 vk, .int .i64 vn, .str vs, .sl es] := by rw [← he, cells_mk, hes]
  obtain ⟨bl, hbl, hlost⟩ := each_all C _ e (Nat.le_refl _) (by rw [← he]; exact hw) _ false hce
  rw [b1] at hbl
  have hkc : builtM e = true → bl = false → ∃ k b, kindF K e false = (k, b) ∧ ACall Tryz.prog 29 [.p (.agg [.int .i64 op, .int .i64 n, .int .i64 vk, .int .i64 vn, .str vs, .sl es]), .ref 0 0, .ref 1 0, .ref 2 0] (kH false C) fun r H' => r = .p (.int .i64 k) ∧ takeX H' 4 = kH b C := by
    intro h1 h2
    exact kindA_all K C hC _ e (Nat.le_refl _) (kind_fine h1 (by rw [lostK_cols, hbl, h2])) _ false hce
  have hkf : builtM e = true → bl = false → ((kindE K e).2 = true → kindF K e false = ((kindE K e).1, false)) ∧ ((kindE K e).2 = false → (kindF K e false).2 = true) := by
    intro h1 h2
    exact kindF_E K e _ false (kind_fine h1 (by rw [lostK_cols, hbl, h2]))
  rw [he] at hbc ⊢
  obtain ⟨kr, er, hkr⟩ : ∃ a b, kindM K e = (a, b) := ⟨_, _, rfl⟩
  rw [hkr]
  obtain ⟨bt, hbt⟩ : ∃ b, builtM e = b := ⟨_, rfl⟩
  rw [hbt] at hbc hkc hkf
  rw [kindM, hbt, lostK_cols, hbl] at hkr
  have hbn : ∀ {z : Bool}, bt = z → (!z) = false → bt = true := by rintro z rfl h; simpa using h
  have hbf : ∀ {z : Bool}, bt = z → (!z) = true → bt = false := by rintro z rfl h; simpa using h
  refine PCall.x (nt := 40) (res := [.tmp 4, .tmp 5]) mixed tt_ok [] Tryz.func6 rfl rfl rfl c6 (Nat.le_of_ble_eq_true rfl) ?_
  intro cp cc lp Q' hcp hcc hlp hQ
  repeat' (first
    | (with_reducible refine Nm.mk ?_; intro z hz)
    | (with_reducible refine IfB.mk ?_ ?_ <;> (intro h; cases h))
    | (with_reducible refine Two.l ?_; refine Asm.mk ?_ ?_; focus (decide +kernel))
    | (with_reducible refine Two.r ?_)
    | (with_reducible refine Asm.mk ?_ ?_; focus kernel_rfl)
    | (with_reducible refine isCP hcp ?_; first | (refine bP hcp (hbc) ?_; intro z hz))
    | (with_reducible refine isCC hcc ?_; first | (refine bA hcc (hbc) rfl ?_; intro z hz))
    | (with_reducible refine Asm.mk2 ?_ ?_)
    | ((fail_if_success (with_reducible first | refine hQ _ ?_ | refine Side.mk ?_ | refine isCP hcp ?_ | refine isCC hcc ?_ | refine isLP hlp ?_ | refine Ix.mk ?_ | refine SIx.mk ?_ | refine SEx.mk ?_ | refine EIx.mk ?_ | refine RIx.mk ?_ | show False | refine hR ?_ _ ?_ ?_ ?_ ?_ ?_ | refine hR2 ?_ _ ?_ ?_ ?_ ?_ ?_)); cbv))
  · have hb := hbf (by assumption) (by assumption)
    rw [if_pos hb] at hkr
    simp only [Prod.mk.injEq] at hkr
    refine hQ _ ?_
    rw [← hkr.1, ← hkr.2]
  · have hb := hbn (by assumption) (by assumption)
    rw [if_neg (by rw [hb]; decide)] at hkr
    replace hkc := hkc hb
    replace hkf := hkf hb
    clear hbn hbf hbc
    simp only [nc] at hz
    simp only [nc'] at hz
    have hzl := lenZ (n := K.length) b1 hz
    clear hz
    generalize z = zl at *
    obtain ⟨q, hq⟩ : ∃ q, badK K = q := ⟨_, rfl⟩
    rw [hq] at hkr
    refine loopK (ι := Int) mixed tt_ok hcp hcc hlp [2, 3, 16, 17] (fun i => [(18, .p (.int .i64 i))]) (fun i => (0 ≤ i ∧ i ≤ zl) ∧ badK (K.drop i.toNat) = q) (fun i => (zl - i).toNat) 0 (fun _ => rfl) ⟨⟨by omega, by omega⟩, hq⟩ ⟨rfl, trivial⟩ ?_
    rintro R i ⟨⟨hi0, hi1⟩, hf⟩ hR
    have hk : decide (i < zl) = true → i < K.length := by simp only [decide_eq_true_eq]; omega
    have hki : decide (i < zl) = true → IntKind.i64.wrap (i + 1) = i + 1 ∧ i + 1 ≤ zl ∧ (zl - (i + 1)).toNat < (zl - i).toNat := by simp only [decide_eq_true_eq]; intro h; exact ⟨wrap_in (by omega), by omega, by omega⟩
    have hdr : ∀ x, K[i.toNat]? = some x → K.drop i.toNat = x :: K.drop (i + 1).toNat := by
      intro x hx
      rw [List.drop_eq_getElem_cons (List.getElem?_eq_some_iff.1 hx).1, (List.getElem?_eq_some_iff.1 hx).2, show (i + 1).toNat = i.toNat + 1 by omega]
    have hbad : ∀ {x : Int}, K[i.toNat]? = some x → (!decide (x = 1)) = true → (!decide (x = 2)) = true → q = true := by
      intro x hx h1 h2
      rw [← hf, hdr x hx, badK, List.any_cons, h1, h2]; rfl
    have hgood : ∀ {x : Int}, K[i.toNat]? = some x → ((!decide (x = 1)) = false ∨ (!decide (x = 2)) = false) → badK (K.drop (i + 1).toNat) = q := by
      intro x hx h
      rw [← hf, hdr x hx, badK, badK, List.any_cons]
      rcases h with h | h <;> rw [h] <;> simp
    have hout : decide (i < zl) = false → q = false := by
      simp only [decide_eq_false_iff_not]; intro h
      rw [← hf, List.drop_eq_nil_of_le (by omega)]; rfl
    obtain ⟨kk, bb, hkb, hkcall⟩ : ∃ k b, kindF K e false = (k, b) ∧ (bl = false → ACall Tryz.prog 29 [.p (.agg [.int .i64 op, .int .i64 n, .int .i64 vk, .int .i64 vn, .str vs, .sl es]), .ref 0 0, .ref 1 0, .ref 2 0] (kH false C) fun r H' => r = .p (.int .i64 k) ∧ takeX H' 4 = kH b C) := by
      cases hb2 : bl with
      | true => exact ⟨_, _, rfl, fun h => by cases h⟩
      | false =>
        obtain ⟨k, b, h1, h2⟩ := hkc hb2
        exact ⟨k, b, h1, fun _ => h2⟩
    rw [hkb] at hkf
    clear hkc
    repeat' (first
      | (with_reducible refine Nm.mk ?_; intro z hz)
      | (with_reducible refine IfB.mk ?_ ?_ <;> (intro h; cases h))
      | (with_reducible refine Two.l ?_; refine Asm.mk ?_ ?_; focus (decide +kernel))
      | (with_reducible refine Two.r ?_)
      | (with_reducible refine Asm.mk ?_ ?_; focus kernel_rfl)
      | (with_reducible refine Ix.map hC i64c_len (by decide) hi0 (hk (by assumption)) ?_; intro x hx)
      | (with_reducible refine isCC hcc ?_; refine frameK (H1 := lostH bl C) hcc [2, 1] hlost rfl rfl rfl rfl rfl rfl rfl ?_)
      | (with_reducible refine isCC hcc ?_; refine frameK (H1 := kH bb C) hcc [4, 1, 5, 3] (hkcall rfl) rfl rfl rfl rfl rfl rfl rfl ?_)
      | (with_reducible refine Asm.mk2 ?_ ?_)
      | ((fail_if_success (with_reducible first | refine hQ _ ?_ | refine Side.mk ?_ | refine isCP hcp ?_ | refine isCC hcc ?_ | refine isLP hlp ?_ | refine Ix.mk ?_ | refine SIx.mk ?_ | refine SEx.mk ?_ | refine EIx.mk ?_ | refine RIx.mk ?_ | show False | refine hR ?_ _ ?_ ?_ ?_ ?_ ?_ | refine hR2 ?_ _ ?_ ?_ ?_ ?_ ?_)); cbv))
    · rw [hbad hx (by assumption) (by assumption), if_pos rfl] at hkr
      simp only [Prod.mk.injEq] at hkr
      refine hQ _ ?_
      rw [← hkr.1, ← hkr.2]
    · obtain ⟨e1, e2, e3⟩ := hki (by assumption)
      rw [e1] at hz
      exact hR (i + 1) _ ⟨⟨by omega, e2⟩, hgood hx (.inr (by assumption))⟩ e3 ⟨hz ▸ rfl, trivial⟩ ⟨rfl, rfl, rfl, rfl, trivial⟩ rfl
    · obtain ⟨e1, e2, e3⟩ := hki (by assumption)
      rw [e1] at hz
      exact hR (i + 1) _ ⟨⟨by omega, e2⟩, hgood hx (.inl (by assumption))⟩ e3 ⟨hz ▸ rfl, trivial⟩ ⟨rfl, rfl, rfl, rfl, trivial⟩ rfl
    · rw [hout (by assumption), if_neg (by decide), if_pos rfl] at hkr
      simp only [Prod.mk.injEq] at hkr
      refine hQ _ ?_
      rw [← hkr.1, ← hkr.2]
    · obtain ⟨f1, f2⟩ := hkf rfl
      have g : (kindE K e).2 = false := by
        cases h : (kindE K e).2 with
        | false => rfl
        | true => have := congrArg Prod.snd (f1 h); cases this
      rw [hout (by assumption), if_neg (by decide), if_neg (by decide), if_pos g] at hkr
      simp only [Prod.mk.injEq] at hkr
      refine hQ _ ?_
      rw [← hkr.1, ← hkr.2]
    · obtain ⟨f1, f2⟩ := hkf rfl
      have g : (kindE K e).2 = true := by
        cases h : (kindE K e).2 with
        | true => rfl
        | false => cases f2 h
      have g1 := congrArg Prod.fst (f1 g)
      rw [hout (by assumption), if_neg (by decide), if_neg (by decide), if_neg (by rw [g]; decide)] at hkr
      simp only [Prod.mk.injEq] at hkr
      refine hQ _ ?_
      rw [← hkr.1, ← hkr.2, ← g1]
end Go.Proofs.YtnhmnfokbinplaaGreat
