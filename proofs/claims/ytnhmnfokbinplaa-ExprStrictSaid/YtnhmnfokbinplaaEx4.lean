/- Expressions: compile, what it makes. Own work; no condition. -/
import Derived.Test.YtnhmnfokbinplaaEx3
namespace Go.Proofs.Ytnhmnfokbinplaa
open Go Go.RowKit
set_option maxRecDepth 100000
set_option linter.unusedSimpArgs false
set_option linter.unusedVariables false

def one2 (f L : PV) : Nat × List PV := (167, [.ip [f], .ip [L]])
def two2 (f L : PV) : Nat × List PV := (169, [.ip [f], .ip [L]])
def by2 (f : PV) (cells : List PV) (L : PV) : Nat × List PV := two2 (.fn 171 [.ip [f], .ip cells]) L
def wkOp (op : Int) (cells : List PV) (v : Val) (L : List (List PV)) : Nat × List PV :=
  if op = 1 then (173, [.ip cells]) else if op = 2 then (174, [.ip (clean v).cells])
  else if op = 3 then one2 (.fn 175 []) (.sl L) else if op = 4 then one2 (.fn 20 []) (.sl L) else if op = 5 then one2 (.fn 176 [.ip [.fn 172 []]]) (.sl L) else if op = 6 then one2 (.fn 177 []) (.sl L)
  else if op = 7 ∨ op = 8 ∨ op = 9 ∨ op = 10 ∨ op = 11 then by2 (.fn 29 []) cells (.sl L) else if op = 18 then two2 (.fn 55 []) (.sl L) else if op = 19 ∨ op = 20 then by2 (.fn 19 []) cells (.sl L)
  else if op = 21 then (178, [.ip [.sl L]]) else by2 (.fn 52 []) cells (.sl L)
mutual
def wk : Ex → Nat × List PV
  | .mk op n v ar => wkOp op (Ex.mk op n v ar).cells v (wkL ar)
def wkL : List Ex → List (List PV)
  | [] => []
  | e :: r => [.fn (wk e).1 (wk e).2] :: wkL r
end
def wkc (e : Ex) : List PV := [.fn (wk e).1 (wk e).2]
theorem wkL_eq : ∀ l : List Ex, wkL l = l.map wkc
  | [] => rfl
  | e :: r => by simp [wkL, wkL_eq r, wkc]

theorem okEs_wkc (l : List Ex) : okEs 1 (l.map wkc) = true := by
  simp only [okEs, List.all_map, List.all_eq_true]
  intro e _
  simp [wkc, PV.one]

section
variable {P : Program} {cp : FuncId → List PV → (CR → Prop) → Prop} {cc : FuncId → List AV → List AObj → (AV → List AObj → Prop) → Prop} {f : FuncId} {args : List PV} {aargs : List AV} {H : List AObj}
theorem fnP (hcp : PC1 P = cp) {X : Nat × List PV} {K : CR → Prop} (h : PCall P f args fun r => r = [.fn X.1 X.2]) (k : ∀ n c, X = (n, c) → K (.pure [.fn n c])) : cp f args K := callP hcp h fun _ e => e ▸ k X.1 X.2 rfl
theorem fnA (hcc : ACall P = cc) {X : Nat × List PV} {K : AV → List AObj → Prop} (h : PCall P f args fun r => r = [.fn X.1 X.2]) (ha : optL pureX aargs = some args) (k : ∀ n c, X = (n, c) → K (.p (.fn n c)) H) : cc f aargs H K := callA hcc ha h fun _ e => e ▸ k X.1 X.2 rfl
end

set_option maxHeartbeats 4000000 in
theorem compile_c (op n : Int) (v : Val) (ar : List Ex) (es : List (List PV)) (hes : ar.map Ex.cells = es) (hs : wideN ar.length)
    (IH : ∀ x, x ∈ ar → PCall Try.prog 118 [.agg x.cells] fun r => r = [.fn (wk x).1 (wk x).2]) :
    PCall Try.prog 118 [.agg [.int .i64 op, .int .i64 n, .int .i64 v.k, .int .i64 v.n, .str v.s, .sl es]] fun r => r = [.fn (wk (.mk op n v ar)).1 (wk (.mk op n v ar)).2] := by
  have hel : es.length = ar.length := by rw [← hes]; simp
  obtain ⟨vk, vn, vs⟩ := v
  obtain ⟨q, hq⟩ : ∃ q, wk (.mk op n ⟨vk, vn, vs⟩ ar) = q := ⟨_, rfl⟩
  rw [hq]
  rw [wk, cells_mk, hes, wkL_eq] at hq
  unfold wideN at hs
  have hmc : ∀ (op' m' vk' vn' : Int) (vs' : ByteArray) (ar' : List Ex) (es' : List (List PV)) (i : Nat), ar[i]? = some (.mk op' m' ⟨vk', vn', vs'⟩ ar') → ar'.map Ex.cells = es' →
      PCall Try.prog 118 [.agg [.int .i64 op', .int .i64 m', .int .i64 vk', .int .i64 vn', .str vs', .sl es']] fun r => r = [.fn (wk (.mk op' m' ⟨vk', vn', vs'⟩ ar')).1 (wk (.mk op' m' ⟨vk', vn', vs'⟩ ar')).2] := by
    intro op' m' vk' vn' vs' ar' es' i hx he
    have := IH _ (List.mem_of_getElem? hx)
    rw [cells_mk, he] at this
    exact this
  refine PCall.x (nt := 77) (res := [.tmp 2]) mixed tt_ok [(166, [1, 4]), (168, [1]), (170, [1, 3, 0])] Try.func118 rfl rfl rfl c118 (Nat.le_of_ble_eq_true rfl) ?_
  intro cp cc lp Q' hcp hcc hlp hQ
  repeat' (first
    | (with_reducible refine Nm.mk ?_; intro z hz)
    | (with_reducible refine IfB.mk ?_ ?_ <;> (intro h; cases h))
    | (with_reducible refine Asm.mk ?_ ?_; focus (first | kernel_rfl | decide))
    | (with_reducible refine Asm.mk2 ?_ ?_)
    | ((fail_if_success (with_reducible refine hQ _ ?_)); (fail_if_success (with_reducible refine Side.mk ?_)); (fail_if_success (with_reducible refine isCP hcp ?_)); (fail_if_success (with_reducible refine isCC hcc ?_)); (fail_if_success (with_reducible refine isLP hlp ?_)); (fail_if_success (with_reducible refine Ix.mk ?_)); (fail_if_success (with_reducible refine SIx.mk ?_)); (fail_if_success (with_reducible refine SEx.mk ?_)); (fail_if_success (with_reducible refine EIx.mk ?_)); (fail_if_success (with_reducible show False)); (fail_if_success (with_reducible refine hR ?_ _ ?_ ?_ ?_ ?_ ?_)); (fail_if_success (with_reducible refine hR2 ?_ _ ?_ ?_ ?_ ?_ ?_)); cbv))
  simp only [nc] at hz
  simp only [nc'] at hz
  have hzl := hz
  clear hz
  rename Int => zl
  refine mintX hlp 1 1 0 rfl rfl ?_
  refine loopTz [(166, [1, 4]), (168, [1]), (170, [1, 3, 0])] (ι := Int × List (List PV) × Nat) mixed tt_ok hcp hcc hlp [1, 3, 12, 13] (fun p => [(14, .p (.int .i64 p.1))])
    (fun p => [.cells [.p (.int .i64 op), .p (.int .i64 n), .p (.int .i64 vk), .p (.int .i64 vn), .p (.str vs), .p (.sl es)], .cells [.tok 2 p.2.1], .spare p.2.2 1])
    (fun p => 0 ≤ p.1 ∧ p.1 ≤ zl ∧ (ar.take p.1.toNat).map wkc = p.2.1 ∧ p.2.1.length = p.2.2) (fun p => (zl - p.1).toNat)
    (0, [], 0) 3 (fun _ => rfl) ⟨by show (0 : Int) ≤ 0; omega, by show (0 : Int) ≤ zl; omega, by simp, rfl⟩ ⟨rfl, trivial⟩ rfl ?_
  rintro R ⟨i, L, m⟩ ⟨hi0, hi1, hl, hm⟩ hR
  have hi0 : 0 ≤ i := hi0
  have hi1 : i ≤ zl := hi1
  have hl : (ar.take i.toNat).map wkc = L := hl
  have hm : L.length = m := hm
  have hll : L.length ≤ i.toNat := by rw [← hl]; simp; omega
  have hok : okEs 1 L = true := by rw [← hl]; exact okEs_wkc _
  have hk : decide (i < zl) = true → i < ar.length := by simp only [decide_eq_true_eq]; omega
  have hst : decide (i < zl) = true → L.length + 1 ≤ maxLen ∧ (L.length + 1) * 8 ≤ 140737488355328 ∧ IntKind.i64.wrap (i + 1) = i + 1 ∧ (0 ≤ i + 1 ∧ i + 1 ≤ zl) ∧ (zl - (i + 1)).toNat < (zl - i).toNat := by
    intro h
    have hlt := hk h
    simp only [decide_eq_true_eq] at h
    refine ⟨by simp only [maxLen]; omega, by omega, wrap_in (by omega), by omega, by omega⟩
  have hfin : decide (i < zl) = false → ar.map wkc = L := by
    simp only [decide_eq_false_iff_not]; intro h
    rw [← hl, List.take_of_length_le (by omega)]
  repeat' (first
    | (with_reducible refine Nm.mk ?_; intro z hz)
    | (with_reducible refine IfB.mk ?_ ?_ <;> (intro h; cases h))
    | (with_reducible refine Asm.mk ?_ ?_; focus (first | kernel_rfl | (obtain ⟨u1, u2, u3⟩ := hst (by assumption); exact ⟨hm.symm, rfl, hok, rfl, u1, u2⟩)))
    | (with_reducible refine isCP hcp ?_; first | (refine fnP hcp (hmc _ _ _ _ _ _ _ i.toNat (by assumption) (by assumption)) ?_; intro k2 c2 hX) | (refine vP hcp (clean_c _ _ _) ?_; intro v hv) | (refine xP hcp (one_c _ _ _) ?_; skip) | (refine xP hcp (two_c _ _ _) ?_; skip) | (refine xP hcp (by_c _ _ _ _) ?_; skip))
    | (with_reducible refine isCC hcc ?_; first | (refine fnA hcc (hmc _ _ _ _ _ _ _ i.toNat (by assumption) (by assumption)) rfl ?_; intro k2 c2 hX) | (refine vA hcc (clean_c _ _ _) rfl ?_; intro v hv) | (refine xA hcc (one_c _ _ _) rfl ?_; skip) | (refine xA hcc (two_c _ _ _) rfl ?_; skip) | (refine xA hcc (by_c _ _ _ _) rfl ?_; skip))
    | (with_reducible refine Ix.ex hes hi0 (hk (by assumption)) ?_; intro op' m' vk' vn' vs' ar' es' hx hes')
    | (with_reducible refine Asm.mk2 ?_ ?_)
    | ((fail_if_success (with_reducible refine hQ _ ?_)); (fail_if_success (with_reducible refine Side.mk ?_)); (fail_if_success (with_reducible refine isCP hcp ?_)); (fail_if_success (with_reducible refine isCC hcc ?_)); (fail_if_success (with_reducible refine isLP hlp ?_)); (fail_if_success (with_reducible refine Ix.mk ?_)); (fail_if_success (with_reducible refine SIx.mk ?_)); (fail_if_success (with_reducible refine SEx.mk ?_)); (fail_if_success (with_reducible refine EIx.mk ?_)); (fail_if_success (with_reducible show False)); (fail_if_success (with_reducible refine hR ?_ _ ?_ ?_ ?_ ?_ ?_)); (fail_if_success (with_reducible refine hR2 ?_ _ ?_ ?_ ?_ ?_ ?_)); cbv))
  · refine Side.mk ?_
    obtain ⟨u1, u2, u3⟩ := hst (by assumption)
    exact ⟨hm.symm, rfl, hok, rfl, u1, u2⟩
  · obtain ⟨u1, u2, e1, u3, u4⟩ := hst (by assumption)
    rw [e1] at hz
    rename_i L2 hL2 m2 hm2
    have et : ar.take (i + 1).toNat = ar.take i.toNat ++ [.mk op' m' ⟨vk', vn', vs'⟩ ar'] := by rw [show (i + 1).toNat = i.toNat + 1 by omega, takeS hx]
    refine hR (i + 1, _, _) _ ⟨u3.1, u3.2, ?_, ?_⟩ u4 ⟨hz ▸ rfl, trivial⟩ ⟨rfl, rfl, rfl, rfl, trivial⟩ rfl
    · show (ar.take (i + 1).toNat).map wkc = L2
      rw [et, List.map_append, hl, ← hL2]
      simp only [List.map_cons, List.map_nil, wkc, hX]
    · show L2.length = m2
      rw [← hL2, ← hm2, List.length_append]
  all_goals (refine hQ _ ?_; rw [← hq, hfin (by assumption)]; clear hQ hR hcp hcc hlp hq hfin hst hk hok hmc IH)
  all_goals first
    | (have e := of_decide_eq_true (show decide (op = _) = true by assumption)
       subst e
       subst_vars
       rfl)
    | (unfold wkOp; simp_all; first | rfl | exact ⟨rfl, rfl⟩)
theorem compile_all : ∀ (m : Nat) (e : Ex), e.sz ≤ m → e.wide → PCall Try.prog 118 [.agg e.cells] fun r => r = [.fn (wk e).1 (wk e).2]
  | 0, .mk op n v ar, h, _ => by simp [Ex.sz] at h
  | m + 1, .mk op n v ar, h, hw => by
    rw [cells_mk]
    refine compile_c op n v ar _ rfl hw.1 fun x hx => compile_all m x ?_ (wide_mem hw.2 hx)
    have := sz_mem hx
    simp only [Ex.sz] at h; omega
end Go.Proofs.Ytnhmnfokbinplaa
