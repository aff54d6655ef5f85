/- Expressions: mapped. Own work; no condition. -/
import Derived.Test.YtnhmnfokbinplaaExZ
namespace Go.Proofs.Ytnhmnfokbinplaa
open Go Go.RowKit
set_option maxRecDepth 100000
set_option linter.unusedSimpArgs false
set_option linter.unusedVariables false

section
variable {P : Program} {cp : FuncId → List PV → (CR → Prop) → Prop} {cc : FuncId → List AV → List AObj → (AV → List AObj → Prop) → Prop} {f : FuncId} {args : List PV} {aargs : List AV} {H : List AObj}
theorem exP (hcp : PC1 P = cp) {X : Ex} {K : CR → Prop} (h : PCall P f args fun r => r = [.agg X.cells]) (k : ∀ op n vk vn vs ar es, X = .mk op n ⟨vk, vn, vs⟩ ar → ar.map Ex.cells = es → K (.pure [.agg [.int .i64 op, .int .i64 n, .int .i64 vk, .int .i64 vn, .str vs, .sl es]])) : cp f args K := by
  obtain ⟨op, n, ⟨vk, vn, vs⟩, ar⟩ := X
  rw [cells_mk] at h
  exact callP hcp h fun _ e => e ▸ k op n vk vn vs ar _ rfl rfl
theorem exA (hcc : ACall P = cc) {X : Ex} {K : AV → List AObj → Prop} (h : PCall P f args fun r => r = [.agg X.cells]) (ha : optL pureX aargs = some args) (k : ∀ op n vk vn vs ar es, X = .mk op n ⟨vk, vn, vs⟩ ar → ar.map Ex.cells = es → K (.p (.agg [.int .i64 op, .int .i64 n, .int .i64 vk, .int .i64 vn, .str vs, .sl es])) H) : cc f aargs H K := by
  obtain ⟨op, n, ⟨vk, vn, vs⟩, ar⟩ := X
  rw [cells_mk] at h
  exact callA hcc ha h fun _ e => e ▸ k op n vk vn vs ar _ rfl rfl
theorem pure_p : ∀ cs : List PV, optL pureX (mapX .p cs) = some cs
  | [] => rfl
  | c :: r => by
    have : pureX (.p c) = some c := by rw [pureX_eq]; cases c <;> rfl
    simp only [mapX, optL, this, pure_p r]
theorem ha1 {x : AV} {y : PV} {cs : List PV} (hx : pureX x = some y) : optL pureX (x :: mapX .p cs) = some (y :: cs) := by simp only [optL, hx, pure_p]
theorem hb1 {x : AV} {y : PV} {cs : List PV} (hx : pureX x = some y) : optL pureX (catX [x] (mapX .p cs)) = some (y :: cs) := ha1 hx
theorem hb2 {x x' : AV} {y y' : PV} {cs : List PV} (hx : pureX x = some y) (hx' : pureX x' = some y') : optL pureX (catX [x, x'] (mapX .p cs)) = some (y :: y' :: cs) := by
  show optL pureX (x :: x' :: mapX .p cs) = _
  simp only [optL, hx, hx', pure_p]
theorem ha2 {x x' : AV} {y y' : PV} {cs : List PV} (hx : pureX x = some y) (hx' : pureX x' = some y') : optL pureX (x :: x' :: mapX .p cs) = some (y :: y' :: cs) := by simp only [optL, hx, hx', pure_p]
end

mutual
def mapE (g : Ex → Ex) : Ex → Ex
  | .mk op n v ar => g (.mk op (if op = 1 then n else 0) (if op = 1 then Val.zero else if op = 2 then clean v else Val.zero) (mapL g ar))
def mapL (g : Ex → Ex) : List Ex → List Ex
  | [] => []
  | e :: r => mapE g e :: mapL g r
end
theorem mapL_eq (g : Ex → Ex) : ∀ l : List Ex, mapL g l = l.map (mapE g)
  | [] => rfl
  | e :: r => by simp [mapL, mapL_eq g r]

theorem same_c (op n : Int) (vk vn : Int) (vs : ByteArray) (es : List (List PV)) : PCall Try.prog 117 [.agg [.int .i64 op, .int .i64 n, .int .i64 vk, .int .i64 vn, .str vs, .sl es]] fun r => r = [.agg [.int .i64 op, .int .i64 n, .int .i64 vk, .int .i64 vn, .str vs, .sl es]] := by
  refine PCall.x (nt := 4) (res := [.cell 2 80]) mixed tt_ok [] Try.func117 rfl rfl rfl c117 (Nat.le_of_ble_eq_true rfl) ?_
  intro cp cc lp Q' hcp hcc hlp hQ
  repeat' (first
    | (with_reducible refine Nm.mk ?_; intro z hz)
    | (with_reducible refine IfB.mk ?_ ?_ <;> (intro h; cases h))
    | (with_reducible refine Asm.mk ?_ ?_; focus (first | kernel_rfl | decide))
    | (with_reducible refine Asm.mk2 ?_ ?_)
    | ((fail_if_success (with_reducible refine hQ _ ?_)); (fail_if_success (with_reducible refine Side.mk ?_)); (fail_if_success (with_reducible refine isCP hcp ?_)); (fail_if_success (with_reducible refine isCC hcc ?_)); (fail_if_success (with_reducible refine isLP hlp ?_)); (fail_if_success (with_reducible refine Ix.mk ?_)); (fail_if_success (with_reducible refine SIx.mk ?_)); (fail_if_success (with_reducible refine SEx.mk ?_)); (fail_if_success (with_reducible refine EIx.mk ?_)); (fail_if_success (with_reducible show False)); (fail_if_success (with_reducible refine hR ?_ _ ?_ ?_ ?_ ?_ ?_)); (fail_if_success (with_reducible refine hR2 ?_ _ ?_ ?_ ?_ ?_ ?_)); cbv))
  all_goals (refine hQ _ ?_; clear hQ hcp hcc hlp; subst_vars; simp_all [])

theorem takeS {α : Type} {l : List α} {i : Nat} {x : α} (h : l[i]? = some x) : l.take (i + 1) = l.take i ++ [x] := by rw [List.take_add_one, h]; rfl
theorem okEs_cells (l : List Ex) : okEs 6 (l.map Ex.cells) = true := by
  simp only [okEs, List.all_map, List.all_eq_true]
  intro e _
  obtain ⟨a, b, c, d⟩ := e
  simp [cells_mk, PV.one]
def wideN (n : Nat) : Prop := n * 72 ≤ 140737488355328
set_option maxHeartbeats 1000000 in
theorem mapped_c (g : Ex → Ex) (k : Nat) (caps : List PV) (C : Ex → Prop) (hg : ∀ (op n vk vn : Int) (vs : ByteArray) (ar : List Ex) (es : List (List PV)), C (.mk op n ⟨vk, vn, vs⟩ ar) → ar.map Ex.cells = es → PCall Try.prog k (.agg [.int .i64 op, .int .i64 n, .int .i64 vk, .int .i64 vn, .str vs, .sl es] :: caps) fun r => r = [.agg (g (.mk op n ⟨vk, vn, vs⟩ ar)).cells])
    (op n : Int) (v : Val) (ar : List Ex) (es : List (List PV)) (hes : ar.map Ex.cells = es) (hs : wideN ar.length) (hC : C (.mk op (if op = 1 then n else 0) (if op = 1 then Val.zero else if op = 2 then clean v else Val.zero) (ar.map (mapE g))))
    (IH : ∀ x, x ∈ ar → PCall Try.prog 116 [.agg x.cells, .fn k caps] fun r => r = [.agg (mapE g x).cells]) :
    PCall Try.prog 116 [.agg [.int .i64 op, .int .i64 n, .int .i64 v.k, .int .i64 v.n, .str v.s, .sl es], .fn k caps] fun r => r = [.agg (mapE g (.mk op n v ar)).cells] := by
  have hel : es.length = ar.length := by rw [← hes]; simp
  obtain ⟨q, hq⟩ : ∃ q, mapE g (.mk op n v ar) = q := ⟨_, rfl⟩
  rw [hq]
  rw [mapE, mapL_eq] at hq
  obtain ⟨vk, vn, vs⟩ := v
  unfold wideN at hs
  have hmc : ∀ (op' m' vk' vn' : Int) (vs' : ByteArray) (ar' : List Ex) (es' : List (List PV)) (i : Nat), ar[i]? = some (.mk op' m' ⟨vk', vn', vs'⟩ ar') → ar'.map Ex.cells = es' →
      PCall Try.prog 116 [.agg [.int .i64 op', .int .i64 m', .int .i64 vk', .int .i64 vn', .str vs', .sl es'], .fn k caps] fun r => r = [.agg (mapE g (.mk op' m' ⟨vk', vn', vs'⟩ ar')).cells] := by
    intro op' m' vk' vn' vs' ar' es' i hx he
    have := IH _ (List.mem_of_getElem? hx)
    rw [cells_mk, he] at this
    exact this
  refine PCall.x (nt := 43) (res := [.cell 4 80]) mixed tt_ok [] Try.func116 rfl rfl rfl c116 (Nat.le_of_ble_eq_true rfl) ?_
  intro cp cc lp Q' hcp hcc hlp hQ
  repeat' (first
    | (with_reducible refine Nm.mk ?_; intro z hz)
    | (with_reducible refine IfB.mk ?_ ?_ <;> (intro h; cases h))
    | (with_reducible refine Asm.mk ?_ ?_; focus (first | kernel_rfl | decide))
    | (with_reducible refine isCP hcp ?_; first | (refine vP hcp (clean_c vk vn vs) ?_; intro v hv))
    | (with_reducible refine isCC hcc ?_; first | (refine vA hcc (clean_c vk vn vs) rfl ?_; intro v hv))
    | (with_reducible refine Asm.mk2 ?_ ?_)
    | ((fail_if_success (with_reducible refine hQ _ ?_)); (fail_if_success (with_reducible refine Side.mk ?_)); (fail_if_success (with_reducible refine isCP hcp ?_)); (fail_if_success (with_reducible refine isCC hcc ?_)); (fail_if_success (with_reducible refine isLP hlp ?_)); (fail_if_success (with_reducible refine Ix.mk ?_)); (fail_if_success (with_reducible refine SIx.mk ?_)); (fail_if_success (with_reducible refine SEx.mk ?_)); (fail_if_success (with_reducible refine EIx.mk ?_)); (fail_if_success (with_reducible show False)); (fail_if_success (with_reducible refine hR ?_ _ ?_ ?_ ?_ ?_ ?_)); (fail_if_success (with_reducible refine hR2 ?_ _ ?_ ?_ ?_ ?_ ?_)); cbv))
  · have hq' : g (.mk op n ⟨0, 0, ⟨⟨[]⟩⟩⟩ (ar.map (mapE g))) = q := by
      rw [← hq]
      clear hQ hcp hcc hlp hmc hg IH
      first
        | (have e : op = 1 := of_decide_eq_true (by assumption)
           subst e; rfl)
        | (have e : op = 2 := of_decide_eq_true (by assumption)
           subst e; subst_vars; rfl)
        | (have e1 : ¬ op = 1 := of_decide_eq_false (by assumption)
           have e2 : ¬ op = 2 := of_decide_eq_false (by assumption)
           rw [if_neg e1, if_neg e1, if_neg e2]; rfl)
    have hC' : C (.mk op n ⟨0, 0, ⟨⟨[]⟩⟩⟩ (ar.map (mapE g))) := by
      clear hQ hcp hcc hlp hmc hg IH hq hq'
      first
        | (have e : op = 1 := of_decide_eq_true (by assumption)
           subst e; exact hC)
        | (have e : op = 2 := of_decide_eq_true (by assumption)
           subst e; subst_vars; exact hC)
        | (have e1 : ¬ op = 1 := of_decide_eq_false (by assumption)
           have e2 : ¬ op = 2 := of_decide_eq_false (by assumption)
           rw [if_neg e1, if_neg e1, if_neg e2] at hC; exact hC)
    clear hq
    simp only [nc] at hz
    simp only [nc'] at hz
    have hzl := hz
    clear hz
    rename Int => zl
    refine mintX hlp 6 2 5 rfl rfl ?_
    refine loopT (ι := Int × List (List PV) × Nat) mixed tt_ok hcp hcc hlp [1, 2, 4, 5, 25, 26] (fun p => [(27, .p (.int .i64 p.1))])
      (fun p => [.cells [.p (.int .i64 op), .p (.int .i64 n), .p (.int .i64 vk), .p (.int .i64 vn), .p (.str vs), .p (.sl es)], .cells [.p (.int .i64 0), .p (.int .i64 0), .p (.int .i64 0), .p (.int .i64 0), .p (.str ⟨⟨[]⟩⟩), .full []],
        .cells [.p (.int .i64 op), .p (.int .i64 n), .p (.int .i64 0), .p (.int .i64 0), .p (.str ⟨⟨[]⟩⟩), .tok 3 p.2.1], .spare p.2.2 6])
      (fun p => 0 ≤ p.1 ∧ p.1 ≤ zl ∧ (ar.take p.1.toNat).map (fun e => (mapE g e).cells) = p.2.1 ∧ p.2.1.length = p.2.2) (fun p => (zl - p.1).toNat)
      (0, [], 0) 4 (fun _ => rfl) ⟨by show (0 : Int) ≤ 0; omega, by show (0 : Int) ≤ zl; omega, by simp, rfl⟩ ⟨rfl, trivial⟩ rfl ?_
    rintro R ⟨i, L, m⟩ ⟨hi0, hi1, hl, hm⟩ hR
    have hi0 : 0 ≤ i := hi0
    have hi1 : i ≤ zl := hi1
    have hl : (ar.take i.toNat).map (fun e => (mapE g e).cells) = L := hl
    have hm : L.length = m := hm
    have hll : L.length ≤ i.toNat := by rw [← hl]; simp; omega
    have hok : okEs 6 L = true := by
      rw [← hl, show (fun e => (mapE g e).cells) = Ex.cells ∘ mapE g from rfl, ← List.map_map]; exact okEs_cells _
    have hk : decide (i < zl) = true → i < ar.length := by simp only [decide_eq_true_eq]; omega
    have hst : decide (i < zl) = true → L.length + 1 ≤ maxLen ∧ (L.length + 1) * 72 ≤ 140737488355328 ∧ IntKind.i64.wrap (i + 1) = i + 1 ∧ (0 ≤ i + 1 ∧ i + 1 ≤ zl) ∧ (zl - (i + 1)).toNat < (zl - i).toNat := by
      intro h
      have hlt := hk h
      simp only [decide_eq_true_eq] at h
      refine ⟨by simp only [maxLen]; omega, by omega, wrap_in (by omega), by omega, by omega⟩
    have hfin : decide (i < zl) = false → (ar.map (mapE g)).map Ex.cells = L := by
      simp only [decide_eq_false_iff_not]; intro h
      rw [← hl, List.take_of_length_le (by omega), List.map_map]; rfl
    repeat' (first
      | (with_reducible refine Nm.mk ?_; intro z hz)
      | (with_reducible refine IfB.mk ?_ ?_ <;> (intro h; cases h))
      | (with_reducible refine Asm.mk ?_ ?_; focus (first | kernel_rfl | (have hlt := hk (by assumption); clear hR hQ hk hfin; refine ⟨hm.symm, rfl, hok, rfl, ?_, ?_⟩ <;> simp only [List.length_cons, List.length_nil, maxLen] <;> omega)))
      | (with_reducible refine isCP hcp ?_; first | (refine exP hcp (hmc _ _ _ _ _ _ _ i.toNat (by assumption) (by assumption)) ?_; intro op2 n2 vk2 vn2 vs2 ar2 es2 hX hes2))
      | (with_reducible refine isCC hcc ?_; first | (refine exA hcc (hmc _ _ _ _ _ _ _ i.toNat (by assumption) (by assumption)) rfl ?_; intro op2 n2 vk2 vn2 vs2 ar2 es2 hX hes2))
      | (with_reducible refine Ix.ex hes hi0 (hk (by assumption)) ?_; intro op' m' vk' vn' vs' ar' es' hx hes')
      | (with_reducible refine isCC hcc ?_; refine exA hcc (hg _ _ _ _ _ (ar.map (mapE g)) _ hC' (hfin (by assumption))) (hb1 rfl) ?_; intro op2 n2 vk2 vn2 vs2 ar2 es2 hX hes2)
      | (with_reducible refine Asm.mk2 ?_ ?_)
      | ((fail_if_success (with_reducible refine hQ _ ?_)); (fail_if_success (with_reducible refine Side.mk ?_)); (fail_if_success (with_reducible refine isCP hcp ?_)); (fail_if_success (with_reducible refine isCC hcc ?_)); (fail_if_success (with_reducible refine isLP hlp ?_)); (fail_if_success (with_reducible refine Ix.mk ?_)); (fail_if_success (with_reducible refine SIx.mk ?_)); (fail_if_success (with_reducible refine SEx.mk ?_)); (fail_if_success (with_reducible refine EIx.mk ?_)); (fail_if_success (with_reducible show False)); (fail_if_success (with_reducible refine hR ?_ _ ?_ ?_ ?_ ?_ ?_)); (fail_if_success (with_reducible refine hR2 ?_ _ ?_ ?_ ?_ ?_ ?_)); cbv))
    · refine Side.mk ?_
      obtain ⟨u1, u2, u3⟩ := hst (by assumption)
      exact ⟨hm.symm, rfl, hok, rfl, u1, u2⟩
    · obtain ⟨u1, u2, e1, u3, u4⟩ := hst (by assumption)
      rw [e1] at hz
      rename_i L2 hL2 m2 hm2
      have et : ar.take (i + 1).toNat = ar.take i.toNat ++ [.mk op' m' ⟨vk', vn', vs'⟩ ar'] := by rw [show (i + 1).toNat = i.toNat + 1 by omega, takeS hx]
      refine hR (i + 1, _, _) _ ⟨u3.1, u3.2, ?_, ?_⟩ u4 ⟨hz ▸ rfl, trivial⟩ ⟨rfl, rfl, rfl, rfl, rfl, rfl, trivial⟩ rfl
      · show (ar.take (i + 1).toNat).map (fun e => (mapE g e).cells) = L2
        rw [et, List.map_append, hl, ← hL2]
        simp only [List.map_cons, List.map_nil, hX, cells_mk, hes2]
      · show L2.length = m2
        rw [← hL2, ← hm2, List.length_append]
    · refine hQ _ ?_
      rw [← hq']
      have hX' := hX
      rw [hX', cells_mk, hes2]
  · have hq' : g (.mk op 0 ⟨v.k, v.n, v.s⟩ (ar.map (mapE g))) = q := by
      rw [← hq]
      clear hQ hcp hcc hlp hmc hg IH
      first
        | (have e : op = 1 := of_decide_eq_true (by assumption)
           subst e; rfl)
        | (have e : op = 2 := of_decide_eq_true (by assumption)
           subst e; subst_vars; rfl)
        | (have e1 : ¬ op = 1 := of_decide_eq_false (by assumption)
           have e2 : ¬ op = 2 := of_decide_eq_false (by assumption)
           rw [if_neg e1, if_neg e1, if_neg e2]; rfl)
    have hC' : C (.mk op 0 ⟨v.k, v.n, v.s⟩ (ar.map (mapE g))) := by
      clear hQ hcp hcc hlp hmc hg IH hq hq'
      first
        | (have e : op = 1 := of_decide_eq_true (by assumption)
           subst e; exact hC)
        | (have e : op = 2 := of_decide_eq_true (by assumption)
           subst e; subst_vars; exact hC)
        | (have e1 : ¬ op = 1 := of_decide_eq_false (by assumption)
           have e2 : ¬ op = 2 := of_decide_eq_false (by assumption)
           rw [if_neg e1, if_neg e1, if_neg e2] at hC; exact hC)
    clear hq
    simp only [nc] at hz
    simp only [nc'] at hz
    have hzl := hz
    clear hz
    rename Int => zl
    refine mintX hlp 6 2 5 rfl rfl ?_
    refine loopT (ι := Int × List (List PV) × Nat) mixed tt_ok hcp hcc hlp [1, 2, 4, 5, 25, 26] (fun p => [(27, .p (.int .i64 p.1))])
      (fun p => [.cells [.p (.int .i64 op), .p (.int .i64 n), .p (.int .i64 vk), .p (.int .i64 vn), .p (.str vs), .p (.sl es)], .cells [.p (.int .i64 0), .p (.int .i64 0), .p (.int .i64 0), .p (.int .i64 0), .p (.str ⟨⟨[]⟩⟩), .full []],
        .cells [.p (.int .i64 op), .p (.int .i64 0), .p (.int .i64 v.k), .p (.int .i64 v.n), .p (.str v.s), .tok 3 p.2.1], .spare p.2.2 6])
      (fun p => 0 ≤ p.1 ∧ p.1 ≤ zl ∧ (ar.take p.1.toNat).map (fun e => (mapE g e).cells) = p.2.1 ∧ p.2.1.length = p.2.2) (fun p => (zl - p.1).toNat)
      (0, [], 0) 4 (fun _ => rfl) ⟨by show (0 : Int) ≤ 0; omega, by show (0 : Int) ≤ zl; omega, by simp, rfl⟩ ⟨rfl, trivial⟩ rfl ?_
    rintro R ⟨i, L, m⟩ ⟨hi0, hi1, hl, hm⟩ hR
    have hi0 : 0 ≤ i := hi0
    have hi1 : i ≤ zl := hi1
    have hl : (ar.take i.toNat).map (fun e => (mapE g e).cells) = L := hl
    have hm : L.length = m := hm
    have hll : L.length ≤ i.toNat := by rw [← hl]; simp; omega
    have hok : okEs 6 L = true := by
      rw [← hl, show (fun e => (mapE g e).cells) = Ex.cells ∘ mapE g from rfl, ← List.map_map]; exact okEs_cells _
    have hk : decide (i < zl) = true → i < ar.length := by simp only [decide_eq_true_eq]; omega
    have hst : decide (i < zl) = true → L.length + 1 ≤ maxLen ∧ (L.length + 1) * 72 ≤ 140737488355328 ∧ IntKind.i64.wrap (i + 1) = i + 1 ∧ (0 ≤ i + 1 ∧ i + 1 ≤ zl) ∧ (zl - (i + 1)).toNat < (zl - i).toNat := by
      intro h
      have hlt := hk h
      simp only [decide_eq_true_eq] at h
      refine ⟨by simp only [maxLen]; omega, by omega, wrap_in (by omega), by omega, by omega⟩
    have hfin : decide (i < zl) = false → (ar.map (mapE g)).map Ex.cells = L := by
      simp only [decide_eq_false_iff_not]; intro h
      rw [← hl, List.take_of_length_le (by omega), List.map_map]; rfl
    repeat' (first
      | (with_reducible refine Nm.mk ?_; intro z hz)
      | (with_reducible refine IfB.mk ?_ ?_ <;> (intro h; cases h))
      | (with_reducible refine Asm.mk ?_ ?_; focus (first | kernel_rfl | (have hlt := hk (by assumption); clear hR hQ hk hfin; refine ⟨hm.symm, rfl, hok, rfl, ?_, ?_⟩ <;> simp only [List.length_cons, List.length_nil, maxLen] <;> omega)))
      | (with_reducible refine isCP hcp ?_; first | (refine exP hcp (hmc _ _ _ _ _ _ _ i.toNat (by assumption) (by assumption)) ?_; intro op2 n2 vk2 vn2 vs2 ar2 es2 hX hes2))
      | (with_reducible refine isCC hcc ?_; first | (refine exA hcc (hmc _ _ _ _ _ _ _ i.toNat (by assumption) (by assumption)) rfl ?_; intro op2 n2 vk2 vn2 vs2 ar2 es2 hX hes2))
      | (with_reducible refine Ix.ex hes hi0 (hk (by assumption)) ?_; intro op' m' vk' vn' vs' ar' es' hx hes')
      | (with_reducible refine isCC hcc ?_; refine exA hcc (hg _ _ _ _ _ (ar.map (mapE g)) _ hC' (hfin (by assumption))) (hb1 rfl) ?_; intro op2 n2 vk2 vn2 vs2 ar2 es2 hX hes2)
      | (with_reducible refine Asm.mk2 ?_ ?_)
      | ((fail_if_success (with_reducible refine hQ _ ?_)); (fail_if_success (with_reducible refine Side.mk ?_)); (fail_if_success (with_reducible refine isCP hcp ?_)); (fail_if_success (with_reducible refine isCC hcc ?_)); (fail_if_success (with_reducible refine isLP hlp ?_)); (fail_if_success (with_reducible refine Ix.mk ?_)); (fail_if_success (with_reducible refine SIx.mk ?_)); (fail_if_success (with_reducible refine SEx.mk ?_)); (fail_if_success (with_reducible refine EIx.mk ?_)); (fail_if_success (with_reducible show False)); (fail_if_success (with_reducible refine hR ?_ _ ?_ ?_ ?_ ?_ ?_)); (fail_if_success (with_reducible refine hR2 ?_ _ ?_ ?_ ?_ ?_ ?_)); cbv))
    · refine Side.mk ?_
      obtain ⟨u1, u2, u3⟩ := hst (by assumption)
      exact ⟨hm.symm, rfl, hok, rfl, u1, u2⟩
    · obtain ⟨u1, u2, e1, u3, u4⟩ := hst (by assumption)
      rw [e1] at hz
      rename_i L2 hL2 m2 hm2
      have et : ar.take (i + 1).toNat = ar.take i.toNat ++ [.mk op' m' ⟨vk', vn', vs'⟩ ar'] := by rw [show (i + 1).toNat = i.toNat + 1 by omega, takeS hx]
      refine hR (i + 1, _, _) _ ⟨u3.1, u3.2, ?_, ?_⟩ u4 ⟨hz ▸ rfl, trivial⟩ ⟨rfl, rfl, rfl, rfl, rfl, rfl, trivial⟩ rfl
      · show (ar.take (i + 1).toNat).map (fun e => (mapE g e).cells) = L2
        rw [et, List.map_append, hl, ← hL2]
        simp only [List.map_cons, List.map_nil, hX, cells_mk, hes2]
      · show L2.length = m2
        rw [← hL2, ← hm2, List.length_append]
    · refine hQ _ ?_
      rw [← hq']
      have hX' := hX
      rw [hX', cells_mk, hes2]
  · have hq' : g (.mk op 0 ⟨0, 0, ⟨⟨[]⟩⟩⟩ (ar.map (mapE g))) = q := by
      rw [← hq]
      clear hQ hcp hcc hlp hmc hg IH
      first
        | (have e : op = 1 := of_decide_eq_true (by assumption)
           subst e; rfl)
        | (have e : op = 2 := of_decide_eq_true (by assumption)
           subst e; subst_vars; rfl)
        | (have e1 : ¬ op = 1 := of_decide_eq_false (by assumption)
           have e2 : ¬ op = 2 := of_decide_eq_false (by assumption)
           rw [if_neg e1, if_neg e1, if_neg e2]; rfl)
    have hC' : C (.mk op 0 ⟨0, 0, ⟨⟨[]⟩⟩⟩ (ar.map (mapE g))) := by
      clear hQ hcp hcc hlp hmc hg IH hq hq'
      first
        | (have e : op = 1 := of_decide_eq_true (by assumption)
           subst e; exact hC)
        | (have e : op = 2 := of_decide_eq_true (by assumption)
           subst e; subst_vars; exact hC)
        | (have e1 : ¬ op = 1 := of_decide_eq_false (by assumption)
           have e2 : ¬ op = 2 := of_decide_eq_false (by assumption)
           rw [if_neg e1, if_neg e1, if_neg e2] at hC; exact hC)
    clear hq
    simp only [nc] at hz
    simp only [nc'] at hz
    have hzl := hz
    clear hz
    rename Int => zl
    refine mintX hlp 6 2 5 rfl rfl ?_
    refine loopT (ι := Int × List (List PV) × Nat) mixed tt_ok hcp hcc hlp [1, 2, 4, 5, 25, 26] (fun p => [(27, .p (.int .i64 p.1))])
      (fun p => [.cells [.p (.int .i64 op), .p (.int .i64 n), .p (.int .i64 vk), .p (.int .i64 vn), .p (.str vs), .p (.sl es)], .cells [.p (.int .i64 0), .p (.int .i64 0), .p (.int .i64 0), .p (.int .i64 0), .p (.str ⟨⟨[]⟩⟩), .full []],
        .cells [.p (.int .i64 op), .p (.int .i64 0), .p (.int .i64 0), .p (.int .i64 0), .p (.str ⟨⟨[]⟩⟩), .tok 3 p.2.1], .spare p.2.2 6])
      (fun p => 0 ≤ p.1 ∧ p.1 ≤ zl ∧ (ar.take p.1.toNat).map (fun e => (mapE g e).cells) = p.2.1 ∧ p.2.1.length = p.2.2) (fun p => (zl - p.1).toNat)
      (0, [], 0) 4 (fun _ => rfl) ⟨by show (0 : Int) ≤ 0; omega, by show (0 : Int) ≤ zl; omega, by simp, rfl⟩ ⟨rfl, trivial⟩ rfl ?_
    rintro R ⟨i, L, m⟩ ⟨hi0, hi1, hl, hm⟩ hR
    have hi0 : 0 ≤ i := hi0
    have hi1 : i ≤ zl := hi1
    have hl : (ar.take i.toNat).map (fun e => (mapE g e).cells) = L := hl
    have hm : L.length = m := hm
    have hll : L.length ≤ i.toNat := by rw [← hl]; simp; omega
    have hok : okEs 6 L = true := by
      rw [← hl, show (fun e => (mapE g e).cells) = Ex.cells ∘ mapE g from rfl, ← List.map_map]; exact okEs_cells _
    have hk : decide (i < zl) = true → i < ar.length := by simp only [decide_eq_true_eq]; omega
    have hst : decide (i < zl) = true → L.length + 1 ≤ maxLen ∧ (L.length + 1) * 72 ≤ 140737488355328 ∧ IntKind.i64.wrap (i + 1) = i + 1 ∧ (0 ≤ i + 1 ∧ i + 1 ≤ zl) ∧ (zl - (i + 1)).toNat < (zl - i).toNat := by
      intro h
      have hlt := hk h
      simp only [decide_eq_true_eq] at h
      refine ⟨by simp only [maxLen]; omega, by omega, wrap_in (by omega), by omega, by omega⟩
    have hfin : decide (i < zl) = false → (ar.map (mapE g)).map Ex.cells = L := by
      simp only [decide_eq_false_iff_not]; intro h
      rw [← hl, List.take_of_length_le (by omega), List.map_map]; rfl
    repeat' (first
      | (with_reducible refine Nm.mk ?_; intro z hz)
      | (with_reducible refine IfB.mk ?_ ?_ <;> (intro h; cases h))
      | (with_reducible refine Asm.mk ?_ ?_; focus (first | kernel_rfl | (have hlt := hk (by assumption); clear hR hQ hk hfin; refine ⟨hm.symm, rfl, hok, rfl, ?_, ?_⟩ <;> simp only [List.length_cons, List.length_nil, maxLen] <;> omega)))
      | (with_reducible refine isCP hcp ?_; first | (refine exP hcp (hmc _ _ _ _ _ _ _ i.toNat (by assumption) (by assumption)) ?_; intro op2 n2 vk2 vn2 vs2 ar2 es2 hX hes2))
      | (with_reducible refine isCC hcc ?_; first | (refine exA hcc (hmc _ _ _ _ _ _ _ i.toNat (by assumption) (by assumption)) rfl ?_; intro op2 n2 vk2 vn2 vs2 ar2 es2 hX hes2))
      | (with_reducible refine Ix.ex hes hi0 (hk (by assumption)) ?_; intro op' m' vk' vn' vs' ar' es' hx hes')
      | (with_reducible refine isCC hcc ?_; refine exA hcc (hg _ _ _ _ _ (ar.map (mapE g)) _ hC' (hfin (by assumption))) (hb1 rfl) ?_; intro op2 n2 vk2 vn2 vs2 ar2 es2 hX hes2)
      | (with_reducible refine Asm.mk2 ?_ ?_)
      | ((fail_if_success (with_reducible refine hQ _ ?_)); (fail_if_success (with_reducible refine Side.mk ?_)); (fail_if_success (with_reducible refine isCP hcp ?_)); (fail_if_success (with_reducible refine isCC hcc ?_)); (fail_if_success (with_reducible refine isLP hlp ?_)); (fail_if_success (with_reducible refine Ix.mk ?_)); (fail_if_success (with_reducible refine SIx.mk ?_)); (fail_if_success (with_reducible refine SEx.mk ?_)); (fail_if_success (with_reducible refine EIx.mk ?_)); (fail_if_success (with_reducible show False)); (fail_if_success (with_reducible refine hR ?_ _ ?_ ?_ ?_ ?_ ?_)); (fail_if_success (with_reducible refine hR2 ?_ _ ?_ ?_ ?_ ?_ ?_)); cbv))
    · refine Side.mk ?_
      obtain ⟨u1, u2, u3⟩ := hst (by assumption)
      exact ⟨hm.symm, rfl, hok, rfl, u1, u2⟩
    · obtain ⟨u1, u2, e1, u3, u4⟩ := hst (by assumption)
      rw [e1] at hz
      rename_i L2 hL2 m2 hm2
      have et : ar.take (i + 1).toNat = ar.take i.toNat ++ [.mk op' m' ⟨vk', vn', vs'⟩ ar'] := by rw [show (i + 1).toNat = i.toNat + 1 by omega, takeS hx]
      refine hR (i + 1, _, _) _ ⟨u3.1, u3.2, ?_, ?_⟩ u4 ⟨hz ▸ rfl, trivial⟩ ⟨rfl, rfl, rfl, rfl, rfl, rfl, trivial⟩ rfl
      · show (ar.take (i + 1).toNat).map (fun e => (mapE g e).cells) = L2
        rw [et, List.map_append, hl, ← hL2]
        simp only [List.map_cons, List.map_nil, hX, cells_mk, hes2]
      · show L2.length = m2
        rw [← hL2, ← hm2, List.length_append]
    · refine hQ _ ?_
      rw [← hq']
      have hX' := hX
      rw [hX', cells_mk, hes2]
mutual
def Ex.wide : Ex → Prop
  | .mk _ _ _ ar => wideN ar.length ∧ wideL ar
def wideL : List Ex → Prop
  | [] => True
  | e :: r => e.wide ∧ wideL r
end
theorem wide_mem : ∀ {l : List Ex} {e : Ex}, wideL l → e ∈ l → e.wide
  | [], _, _, h => by simp at h
  | a :: r, e, hw, h => by
    rcases List.mem_cons.1 h with g | g
    · subst g; exact hw.1
    · exact wide_mem hw.2 g
mutual
def CondE (C : Ex → Prop) (g : Ex → Ex) : Ex → Prop
  | .mk op n v ar => C (.mk op (if op = 1 then n else 0) (if op = 1 then Val.zero else if op = 2 then clean v else Val.zero) (mapL g ar)) ∧ CondL C g ar
def CondL (C : Ex → Prop) (g : Ex → Ex) : List Ex → Prop
  | [] => True
  | e :: r => CondE C g e ∧ CondL C g r
end
theorem cond_mem {C : Ex → Prop} {g : Ex → Ex} : ∀ {l : List Ex} {e : Ex}, CondL C g l → e ∈ l → CondE C g e
  | [], _, _, h => by simp at h
  | a :: r, e, hw, h => by
    rcases List.mem_cons.1 h with q | q
    · subst q; exact hw.1
    · exact cond_mem hw.2 q
theorem cond_true {C : Ex → Prop} {g : Ex → Ex} (h : ∀ e, C e) : ∀ (m : Nat) (e : Ex), e.sz ≤ m → CondE C g e
  | 0, .mk op n v ar, hs => by simp [Ex.sz] at hs
  | m + 1, .mk op n v ar, hs => by
    refine ⟨h _, ?_⟩
    have : ∀ l : List Ex, (∀ x, x ∈ l → CondE C g x) → CondL C g l := by
      intro l
      induction l with
      | nil => intro _; trivial
      | cons a r ih => intro hl; exact ⟨hl a (by simp), ih fun x hx => hl x (by simp [hx])⟩
    refine this ar fun x hx => cond_true h m x ?_
    have := sz_mem hx
    simp only [Ex.sz] at hs; omega
theorem mapped_all (g : Ex → Ex) (k : Nat) (caps : List PV) (C : Ex → Prop) (hg : ∀ (op n vk vn : Int) (vs : ByteArray) (ar : List Ex) (es : List (List PV)), C (.mk op n ⟨vk, vn, vs⟩ ar) → ar.map Ex.cells = es → PCall Try.prog k (.agg [.int .i64 op, .int .i64 n, .int .i64 vk, .int .i64 vn, .str vs, .sl es] :: caps) fun r => r = [.agg (g (.mk op n ⟨vk, vn, vs⟩ ar)).cells]) :
    ∀ (m : Nat) (e : Ex), e.sz ≤ m → e.wide → CondE C g e → PCall Try.prog 116 [.agg e.cells, .fn k caps] fun r => r = [.agg (mapE g e).cells]
  | 0, .mk op n v ar, h, _, _ => by simp [Ex.sz] at h
  | m + 1, .mk op n v ar, h, hw, hc => by
    rw [cells_mk]
    refine mapped_c g k caps C hg op n v ar _ rfl hw.1 (by rw [← mapL_eq]; exact hc.1) fun x hx => mapped_all g k caps C hg m x ?_ (wide_mem hw.2 hx) (cond_mem hc.2 hx)
    have := sz_mem hx
    simp only [Ex.sz] at h; omega
theorem copy_c (op n vk vn : Int) (vs : ByteArray) (ar : List Ex) (es : List (List PV)) (hes : ar.map Ex.cells = es) (hw : (Ex.mk op n ⟨vk, vn, vs⟩ ar).wide) :
    PCall Try.prog 116 [.agg [.int .i64 op, .int .i64 n, .int .i64 vk, .int .i64 vn, .str vs, .sl es], .fn 117 []] fun r => r = [.agg (mapE id (.mk op n ⟨vk, vn, vs⟩ ar)).cells] := by
  have := mapped_all id 117 [] (fun _ => True) (fun op n vk vn vs ar es _ h => by rw [show id (Ex.mk op n ⟨vk, vn, vs⟩ ar) = Ex.mk op n ⟨vk, vn, vs⟩ ar from rfl, cells_mk, h]; exact same_c op n vk vn vs es) _ _ (Nat.le_refl _) hw (cond_true (fun _ => trivial) _ _ (Nat.le_refl _))
  rw [cells_mk, hes] at this
  exact this
end Go.Proofs.Ytnhmnfokbinplaa
