/- Expressions: Fold, its parts; the law ExprFolds. Own work; no condition. -/
import Derived.Test.YtnhmnfokbinplaaEx8
namespace Go.Proofs.Ytnhmnfokbinplaa
open Go Go.RowKit
set_option maxRecDepth 100000
set_option linter.unusedSimpArgs false
set_option linter.unusedVariables false

theorem known_c (op n vk vn : Int) (vs : ByteArray) (ar : List Ex) (es : List (List PV)) (hes : ar.map Ex.cells = es) : PCall Try.prog 125 [.agg [.int .i64 op, .int .i64 n, .int .i64 vk, .int .i64 vn, .str vs, .sl es]] fun r => r = [.bool (knownE (.mk op n ⟨vk, vn, vs⟩ ar))] := by
  refine PCall.x (nt := 6) (res := [.tmp 2]) mixed tt_ok [] Try.func125 rfl rfl rfl c125 (Nat.le_of_ble_eq_true rfl) ?_
  intro cp cc lp Q' hcp hcc hlp hQ
  repeat' (first
    | (with_reducible refine Nm.mk ?_; intro z hz)
    | (with_reducible refine IfB.mk ?_ ?_ <;> (intro h; cases h))
    | (with_reducible refine Asm.mk ?_ ?_; focus (first | kernel_rfl | decide))
    | (with_reducible refine Asm.mk2 ?_ ?_)
    | ((fail_if_success (with_reducible refine hQ _ ?_)); (fail_if_success (with_reducible refine Side.mk ?_)); (fail_if_success (with_reducible refine isCP hcp ?_)); (fail_if_success (with_reducible refine isCC hcc ?_)); (fail_if_success (with_reducible refine isLP hlp ?_)); (fail_if_success (with_reducible refine Ix.mk ?_)); (fail_if_success (with_reducible refine SIx.mk ?_)); (fail_if_success (with_reducible refine SEx.mk ?_)); (fail_if_success (with_reducible refine EIx.mk ?_)); (fail_if_success (with_reducible show False)); (fail_if_success (with_reducible refine hR ?_ _ ?_ ?_ ?_ ?_ ?_)); (fail_if_success (with_reducible refine hR2 ?_ _ ?_ ?_ ?_ ?_ ?_)); cbv))
  all_goals (refine hQ _ ?_; clear hQ hcp hcc hlp; subst_vars; rfl)
theorem notKnown_c (op n vk vn : Int) (vs : ByteArray) (ar : List Ex) (es : List (List PV)) (hes : ar.map Ex.cells = es) : PCall Try.prog 129 [.agg [.int .i64 op, .int .i64 n, .int .i64 vk, .int .i64 vn, .str vs, .sl es], .ip [.fn 125 []]] fun r => r = [.bool (!knownE (.mk op n ⟨vk, vn, vs⟩ ar))] := by
  have hk := known_c op n vk vn vs ar es hes
  refine PCall.x (nt := 8) (res := [.tmp 3]) mixed tt_ok [] Try.func129 rfl rfl rfl c129 (Nat.le_of_ble_eq_true rfl) ?_
  intro cp cc lp Q' hcp hcc hlp hQ
  repeat' (first
    | (with_reducible refine Nm.mk ?_; intro z hz)
    | (with_reducible refine IfB.mk ?_ ?_ <;> (intro h; cases h))
    | (with_reducible refine Asm.mk ?_ ?_; focus (first | kernel_rfl | decide))
    | (with_reducible refine isCP hcp ?_; first | (refine bP hcp (hk) ?_; intro z hz))
    | (with_reducible refine isCC hcc ?_; first | (refine bA hcc (hk) rfl ?_; intro z hz))
    | (with_reducible refine Asm.mk2 ?_ ?_)
    | ((fail_if_success (with_reducible refine hQ _ ?_)); (fail_if_success (with_reducible refine Side.mk ?_)); (fail_if_success (with_reducible refine isCP hcp ?_)); (fail_if_success (with_reducible refine isCC hcc ?_)); (fail_if_success (with_reducible refine isLP hlp ?_)); (fail_if_success (with_reducible refine Ix.mk ?_)); (fail_if_success (with_reducible refine SIx.mk ?_)); (fail_if_success (with_reducible refine SEx.mk ?_)); (fail_if_success (with_reducible refine EIx.mk ?_)); (fail_if_success (with_reducible show False)); (fail_if_success (with_reducible refine hR ?_ _ ?_ ?_ ?_ ?_ ?_)); (fail_if_success (with_reducible refine hR2 ?_ _ ?_ ?_ ?_ ?_ ?_)); cbv))
  all_goals (refine hQ _ ?_; clear hQ hcp hcc hlp hk; subst_vars; rfl)
theorem isE_c (yes : Bool) (op n vk vn : Int) (vs : ByteArray) (ar : List Ex) (es : List (List PV)) (hes : ar.map Ex.cells = es) : PCall Try.prog 127 [.agg [.int .i64 op, .int .i64 n, .int .i64 vk, .int .i64 vn, .str vs, .sl es], .ip [.fn 125 []], .ip [.bool yes]] fun r => r = [.bool (isE yes (.mk op n ⟨vk, vn, vs⟩ ar))] := by
  have hk := known_c op n vk vn vs ar es hes
  refine PCall.x (nt := 22) (res := [.tmp 4]) mixed tt_ok [] Try.func127 rfl rfl rfl c127 (Nat.le_of_ble_eq_true rfl) ?_
  intro cp cc lp Q' hcp hcc hlp hQ
  repeat' (first
    | (with_reducible refine Nm.mk ?_; intro z hz)
    | (with_reducible refine IfB.mk ?_ ?_ <;> (intro h; cases h))
    | (with_reducible refine Asm.mk ?_ ?_; focus (first | kernel_rfl | decide))
    | (with_reducible refine isCP hcp ?_; first | (refine bP hcp (hk) ?_; intro z hz))
    | (with_reducible refine isCC hcc ?_; first | (refine bA hcc (hk) rfl ?_; intro z hz))
    | (with_reducible refine Asm.mk2 ?_ ?_)
    | ((fail_if_success (with_reducible refine hQ _ ?_)); (fail_if_success (with_reducible refine Side.mk ?_)); (fail_if_success (with_reducible refine isCP hcp ?_)); (fail_if_success (with_reducible refine isCC hcc ?_)); (fail_if_success (with_reducible refine isLP hlp ?_)); (fail_if_success (with_reducible refine Ix.mk ?_)); (fail_if_success (with_reducible refine SIx.mk ?_)); (fail_if_success (with_reducible refine SEx.mk ?_)); (fail_if_success (with_reducible refine EIx.mk ?_)); (fail_if_success (with_reducible show False)); (fail_if_success (with_reducible refine hR ?_ _ ?_ ?_ ?_ ?_ ?_)); (fail_if_success (with_reducible refine hR2 ?_ _ ?_ ?_ ?_ ?_ ?_)); cbv))
  all_goals (refine hQ _ ?_; clear hQ hcp hcc hlp hk; simp only [knownE] at *; simp_all [isE])
theorem allOf {k : Nat} {caps : List PV} {p : Ex → Bool} (h : ∀ (op n vk vn : Int) (vs : ByteArray) (ar : List Ex) (es : List (List PV)), ar.map Ex.cells = es → PCall Try.prog k (.agg [.int .i64 op, .int .i64 n, .int .i64 vk, .int .i64 vn, .str vs, .sl es] :: caps) fun r => r = [.bool (p (.mk op n ⟨vk, vn, vs⟩ ar))]) (e : Ex) :
    PCall Try.prog k (.agg e.cells :: caps) fun r => r = [.bool (p e)] := by
  obtain ⟨op, n, ⟨vk, vn, vs⟩, ar⟩ := e
  rw [cells_mk]
  exact h op n vk vn vs ar _ rfl
theorem is_c (yes : Bool) (op n vk vn : Int) (vs : ByteArray) (ar : List Ex) (es : List (List PV)) (hes : ar.map Ex.cells = es) (hs : wideN ar.length) :
    PCall Try.prog 126 [.bool yes, .ip [.int .i64 op, .int .i64 n, .int .i64 vk, .int .i64 vn, .str vs, .sl es], .ip [.fn 125 []]] fun r => r = [.bool (ar.any (isE yes))] := by
  have hc := containsFunc_c 127 [.ip [.fn 125 []], .ip [.bool yes]] (isE yes) ar es hes hs fun e _ => allOf (isE_c yes) e
  refine PCall.x (nt := 9) (res := [.tmp 4]) mixed tt_ok [(122, [0])] Try.func126 rfl rfl rfl c126 (Nat.le_of_ble_eq_true rfl) ?_
  intro cp cc lp Q' hcp hcc hlp hQ
  repeat' (first
    | (with_reducible refine Nm.mk ?_; intro z hz)
    | (with_reducible refine IfB.mk ?_ ?_ <;> (intro h; cases h))
    | (with_reducible refine Asm.mk ?_ ?_; focus (first | kernel_rfl | decide))
    | (with_reducible refine isCP hcp ?_; first | (refine bP hcp (hc) ?_; intro z hz))
    | (with_reducible refine isCC hcc ?_; first | (refine bA hcc (hc) rfl ?_; intro z hz))
    | (with_reducible refine Asm.mk2 ?_ ?_)
    | ((fail_if_success (with_reducible refine hQ _ ?_)); (fail_if_success (with_reducible refine Side.mk ?_)); (fail_if_success (with_reducible refine isCP hcp ?_)); (fail_if_success (with_reducible refine isCC hcc ?_)); (fail_if_success (with_reducible refine isLP hlp ?_)); (fail_if_success (with_reducible refine Ix.mk ?_)); (fail_if_success (with_reducible refine SIx.mk ?_)); (fail_if_success (with_reducible refine SEx.mk ?_)); (fail_if_success (with_reducible refine EIx.mk ?_)); (fail_if_success (with_reducible show False)); (fail_if_success (with_reducible refine hR ?_ _ ?_ ?_ ?_ ?_ ?_)); (fail_if_success (with_reducible refine hR2 ?_ _ ?_ ?_ ?_ ?_ ?_)); cbv))
  all_goals (refine hQ _ ?_; clear hQ hcp hcc hlp hc; subst_vars; rfl)
theorem constant_c (n : Int) : PCall Try.prog 128 [.int .i64 n] fun r => r = [.agg [.int .i64 2, .int .i64 0, .int .i64 1, .int .i64 n, .str ⟨⟨[]⟩⟩, .sl []]] := by
  refine PCall.x (nt := 6) (res := [.cell 2 80]) mixed tt_ok [] Try.func128 rfl rfl rfl c128 (Nat.le_of_ble_eq_true rfl) ?_
  intro cp cc lp Q' hcp hcc hlp hQ
  repeat' (first
    | (with_reducible refine Nm.mk ?_; intro z hz)
    | (with_reducible refine IfB.mk ?_ ?_ <;> (intro h; cases h))
    | (with_reducible refine Asm.mk ?_ ?_; focus (first | kernel_rfl | decide))
    | (with_reducible refine Asm.mk2 ?_ ?_)
    | ((fail_if_success (with_reducible refine hQ _ ?_)); (fail_if_success (with_reducible refine Side.mk ?_)); (fail_if_success (with_reducible refine isCP hcp ?_)); (fail_if_success (with_reducible refine isCC hcc ?_)); (fail_if_success (with_reducible refine isLP hlp ?_)); (fail_if_success (with_reducible refine Ix.mk ?_)); (fail_if_success (with_reducible refine SIx.mk ?_)); (fail_if_success (with_reducible refine SEx.mk ?_)); (fail_if_success (with_reducible refine EIx.mk ?_)); (fail_if_success (with_reducible show False)); (fail_if_success (with_reducible refine hR ?_ _ ?_ ?_ ?_ ?_ ?_)); (fail_if_success (with_reducible refine hR2 ?_ _ ?_ ?_ ?_ ?_ ?_)); cbv))
  all_goals (refine hQ _ ?_; rfl)
theorem zeroCol_c (n : Int) : PCall Try.prog 130 [.int .i64 n] fun r => r = [Val.zero.enc] := by
  refine PCall.x (nt := 4) (res := [.cell 2 25]) mixed tt_ok [] Try.func130 rfl rfl rfl c130 (Nat.le_of_ble_eq_true rfl) ?_
  intro cp cc lp Q' hcp hcc hlp hQ
  repeat' (first
    | (with_reducible refine Nm.mk ?_; intro z hz)
    | (with_reducible refine IfB.mk ?_ ?_ <;> (intro h; cases h))
    | (with_reducible refine Asm.mk ?_ ?_; focus (first | kernel_rfl | decide))
    | (with_reducible refine Asm.mk2 ?_ ?_)
    | ((fail_if_success (with_reducible refine hQ _ ?_)); (fail_if_success (with_reducible refine Side.mk ?_)); (fail_if_success (with_reducible refine isCP hcp ?_)); (fail_if_success (with_reducible refine isCC hcc ?_)); (fail_if_success (with_reducible refine isLP hlp ?_)); (fail_if_success (with_reducible refine Ix.mk ?_)); (fail_if_success (with_reducible refine SIx.mk ?_)); (fail_if_success (with_reducible refine SEx.mk ?_)); (fail_if_success (with_reducible refine EIx.mk ?_)); (fail_if_success (with_reducible show False)); (fail_if_success (with_reducible refine hR ?_ _ ?_ ?_ ?_ ?_ ?_)); (fail_if_success (with_reducible refine hR2 ?_ _ ?_ ?_ ?_ ?_ ?_)); cbv))
  all_goals (refine hQ _ ?_; rfl)

theorem const_cells (v : Val) : (constE v).cells = [.int .i64 2, .int .i64 0, .int .i64 v.k, .int .i64 v.n, .str v.s, .sl []] := by rw [constE, cells_mk]; rfl
theorem knownW (E : Ex) (hg : goodE E = true) (ho : E.okc) : PCall Try.prog (wk E).1 (.fn 130 [] :: (wk E).2) fun r => r = [(evalE (fun _ => Val.zero) E).enc] :=
  (work_all (kc := 130) (cc0 := []) (col := fun _ => Val.zero) (fun n _ => ⟨okV_zero, zeroCol_c n⟩) _ _ (Nat.le_refl _) hg ho).2

theorem Ix.ex_at {es : List (List PV)} {ar : List Ex} {i : Int} {K : List PV → Prop} (hl : ar.map Ex.cells = es) (h0 : 0 ≤ i) {op n vk vn : Int} {vs : ByteArray} {ar' : List Ex} {es' : List (List PV)} (hx : ar[i.toNat]? = some (.mk op n ⟨vk, vn, vs⟩ ar')) (he : ar'.map Ex.cells = es')
    (g : K [.int .i64 op, .int .i64 n, .int .i64 vk, .int .i64 vn, .str vs, .sl es']) : Ix 6 es i K := by
  refine Ix.ex hl h0 ?_ fun op2 n2 vk2 vn2 vs2 ar2 es2 hx2 he2 => ?_
  · have := (List.getElem?_eq_some_iff.1 hx).1; omega
  · rw [hx] at hx2
    simp only [Option.some.injEq, Ex.mk.injEq, Val.mk.injEq] at hx2
    obtain ⟨rfl, rfl, ⟨rfl, rfl, rfl⟩, rfl⟩ := hx2
    rw [← he2, he]; exact g
theorem wk_id (E : Ex) : (wk E).1 = 167 ∨ (wk E).1 = 169 ∨ (wk E).1 = 173 ∨ (wk E).1 = 174 ∨ (wk E).1 = 178 := by
  obtain ⟨op, n, v, ar⟩ := E
  rw [wk]
  unfold wkOp
  (repeat' split) <;> simp [one2, two2, by2]

set_option maxHeartbeats 4000000 in
theorem fold1_c (op n vk vn : Int) (vs : ByteArray) (ar : List Ex) (es : List (List PV)) (hC : FoldC (.mk op n ⟨vk, vn, vs⟩ ar)) (hes : ar.map Ex.cells = es) :
    PCall Try.prog 124 [.agg [.int .i64 op, .int .i64 n, .int .i64 vk, .int .i64 vn, .str vs, .sl es]] fun r => r = [.agg (foldN (.mk op n ⟨vk, vn, vs⟩ ar)).cells] := by
  have hel : es.length = ar.length := by rw [← hes]; simp
  obtain ⟨hg, ho⟩ := hC
  have hw := good_wide _ hg
  have hcont := containsFunc_c 129 [.ip [.fn 125 []]] (fun e => !knownE e) ar es hes hw.1 fun e _ => allOf (p := fun e => !knownE e) notKnown_c e
  have his0 := is_c false op n vk vn vs ar es hes hw.1
  have his1 := is_c true op n vk vn vs ar es hes hw.1
  have hcm := compile_all _ _ (Nat.le_refl _) hw
  have hrun := knownW _ hg ho
  rw [cells_mk, hes] at hcm
  have hall : (ar.any fun e => !knownE e) = !ar.all knownE := by rw [List.any_eq_not_all_not]; simp
  rw [hall] at hcont
  simp only [goodE, Bool.and_eq_true, Bool.not_eq_true'] at hg
  have ha := badE_arity hg.1
  have hl3 : op = 21 → 3 = ar.length := by rintro rfl; simp [arityE] at ha; omega
  obtain ⟨q, hq⟩ : ∃ q, foldN (.mk op n ⟨vk, vn, vs⟩ ar) = q := ⟨_, rfl⟩
  rw [hq]
  rw [foldN] at hq
  obtain ⟨E, hE⟩ : ∃ E, Ex.mk op n ⟨vk, vn, vs⟩ ar = E := ⟨_, rfl⟩
  have hqc : q.cells = q.cells := rfl
  rw [hE] at hcm hrun hq
  have hrun' : ∀ k c, wk E = (k, c) → PCall Try.prog k (.fn 130 [] :: c) fun r => r = [(evalE (fun _ => Val.zero) E).enc] := by
    intro k c hk; rw [hk] at hrun; exact hrun
  have i0 : op = 21 → (0 : Int) < ar.length := fun h => by have := hl3 h; omega
  have i1 : op = 21 → (1 : Int) < ar.length := fun h => by have := hl3 h; omega
  have i2 : op = 21 → (2 : Int) < ar.length := fun h => by have := hl3 h; omega
  have o21 : decide (op = 21) = true → op = 21 := of_decide_eq_true
  have ht : ∀ (x : Val), PCall Try.prog 57 [.agg [.int .i64 x.k, .int .i64 x.n, .str x.s]] fun r => r = [.bool (trueV x)] := fun x => true_c _ _ _
  have hne : ∀ k c, wk E = (k, c) → ¬ 122 = k ∧ ¬ 126 = k := by
    intro k c hk
    have := wk_id E
    rw [hk] at this
    simp only at this
    omega
  clear hrun
  have e0 : ∀ z : Int, (es.length : Int) = z → decide (z = 0) = true → ar.length = 0 := by intro z h g; simp only [decide_eq_true_eq] at g; omega
  have e0' : ∀ z : Int, (es.length : Int) = z → decide (z = 0) = false → ¬ ar.length = 0 := by intro z h g; simp only [decide_eq_false_iff_not] at g; omega
  have ea : ∀ z : Bool, (!ar.all knownE) = z → (!z) = true → ar.all knownE = true := by rintro z rfl h; simpa using h
  have ea' : ∀ z : Bool, (!ar.all knownE) = z → (!z) = false → ¬ ar.all knownE = true := by rintro z rfl h; simpa using h
  refine PCall.x (nt := 69) (res := [.cell 2 80]) mixed tt_ok [(122, [2]), (126, [0, 2])] Try.func124 rfl rfl rfl c124 (Nat.le_of_ble_eq_true rfl) ?_
  intro cp cc lp Q' hcp hcc hlp hQ
  repeat' (first
    | (with_reducible refine Nm.mk ?_; intro z hz)
    | (with_reducible refine IfB.mk ?_ ?_ <;> (intro h; cases h))
    | (with_reducible refine Asm.mk ?_ ?_; focus kernel_rfl)
    | (with_reducible refine isCP hcp ?_; first | (refine bP hcp (hcont) ?_; intro z hz) | (refine fnP hcp (hcm) ?_; intro k c hX) | (refine bP hcp (his0) ?_; intro z hz) | (refine bP hcp (his1) ?_; intro z hz) | (refine xP hcp (constant_c _) ?_; skip) | (refine bP hcp (known_c _ _ _ _ _ _ _ (by assumption)) ?_; intro z hz) | (refine bP hcp (ht ⟨_, _, _⟩) ?_; intro z hz))
    | (with_reducible refine isCC hcc ?_; first | (refine bA hcc (hcont) rfl ?_; intro z hz) | (refine fnA hcc (hcm) rfl ?_; intro k c hX) | (refine bA hcc (his0) rfl ?_; intro z hz) | (refine bA hcc (his1) rfl ?_; intro z hz) | (refine xA hcc (constant_c _) rfl ?_; skip) | (refine bA hcc (known_c _ _ _ _ _ _ _ (by assumption)) rfl ?_; intro z hz) | (refine bA hcc (ht ⟨_, _, _⟩) rfl ?_; intro z hz))
    | (with_reducible refine isCC hcc ?_; refine vA hcc (hrun' _ _ hX) (hb1 rfl) ?_; intro v hv)
    | (with_reducible refine Ix.ex_at (i := 0) hes (by decide) hx0 hes0 ?_)
    | (with_reducible refine Ix.ex (i := 0) hes (by decide) (i0 (o21 (by assumption))) ?_; intro op0 m0 vk0 vn0 vs0 ar0 es0 hx0 hes0)
    | (with_reducible refine Ix.ex (i := 1) hes (by decide) (i1 (o21 (by assumption))) ?_; intro op1 m1 vk1 vn1 vs1 ar1 es1 hx1 hes1)
    | (with_reducible refine Ix.ex (i := 2) hes (by decide) (i2 (o21 (by assumption))) ?_; intro op2 m2 vk2 vn2 vs2 ar2 es2 hx2 hes2)
    | (have g1 := (hne _ _ hX).1; have g2 := (hne _ _ hX).2; simp only [fzOf, if_neg g1, if_neg g2]; clear g1 g2)
    | (with_reducible refine Asm.mk2 ?_ ?_)
    | ((fail_if_success (with_reducible refine hQ _ ?_)); (fail_if_success (with_reducible refine Side.mk ?_)); (fail_if_success (with_reducible refine isCP hcp ?_)); (fail_if_success (with_reducible refine isCC hcc ?_)); (fail_if_success (with_reducible refine isLP hlp ?_)); (fail_if_success (with_reducible refine Ix.mk ?_)); (fail_if_success (with_reducible refine SIx.mk ?_)); (fail_if_success (with_reducible refine SEx.mk ?_)); (fail_if_success (with_reducible refine EIx.mk ?_)); (fail_if_success (with_reducible show False)); (fail_if_success (with_reducible refine hR ?_ _ ?_ ?_ ?_ ?_ ?_)); (fail_if_success (with_reducible refine hR2 ?_ _ ?_ ?_ ?_ ?_ ?_)); cbv))
  all_goals (refine hQ _ ?_; rw [← hq]; clear hQ hcp hcc hlp hcont his0 his1 hcm hrun' hne ht hq hqc)
  all_goals first
    | rw [if_pos (e0 _ (by assumption) (by assumption)), ← hE, cells_mk, hes]
    | (rw [if_neg (e0' _ (by assumption) (by assumption)), if_pos (ea _ (by assumption) (by assumption)), const_cells]
       subst_vars
       rfl)
    | (rw [if_neg (e0' _ (by assumption) (by assumption)), if_neg (ea' _ (by assumption) (by assumption))]
       first
         | (have a : op = 19 := of_decide_eq_true (by assumption)
            have b : ar.any (isE false) = true := by assumption
            rw [if_pos ⟨a, b⟩, const_cells]
            rfl)
         | (have n19 : ¬ (op = 19 ∧ ar.any (isE false) = true) := by
              rintro ⟨a, b⟩
              first
                | (have g : decide (op = 19) = false := by assumption
                   exact of_decide_eq_false g a)
                | (have g : ar.any (isE false) = false := by assumption
                   rw [b] at g; cases g)
            rw [if_neg n19]
            clear n19
            first
              | (have a : op = 20 := of_decide_eq_true (by assumption)
                 have b : ar.any (isE true) = true := by assumption
                 rw [if_pos ⟨a, b⟩, const_cells]
                 rfl)
              | (have n20 : ¬ (op = 20 ∧ ar.any (isE true) = true) := by
                   rintro ⟨a, b⟩
                   first
                     | (have g : decide (op = 20) = false := by assumption
                        exact of_decide_eq_false g a)
                     | (have g : ar.any (isE true) = false := by assumption
                        rw [b] at g; cases g)
                 rw [if_neg n20]
                 clear n20
                 first
                   | (have a : op = 21 := of_decide_eq_true (by assumption)
                      have x0 : ar[0]? = some (.mk op0 m0 ⟨vk0, vn0, vs0⟩ ar0) := hx0
                      have b : knownE (.mk op0 m0 ⟨vk0, vn0, vs0⟩ ar0) = true := by assumption
                      rw [x0, Option.getD_some, if_pos ⟨a, b⟩]
                      first
                        | (have c : trueV (Ex.mk op0 m0 ⟨vk0, vn0, vs0⟩ ar0).val = true := by assumption
                           have x1 : ar[1]? = some (.mk op1 m1 ⟨vk1, vn1, vs1⟩ ar1) := hx1
                           rw [if_pos c, x1, Option.getD_some, cells_mk, hes1])
                        | (have c : trueV (Ex.mk op0 m0 ⟨vk0, vn0, vs0⟩ ar0).val = false := by assumption
                           have x2 : ar[2]? = some (.mk op2 m2 ⟨vk2, vn2, vs2⟩ ar2) := hx2
                           rw [if_neg (by rw [c]; decide), x2, Option.getD_some, cells_mk, hes2]))
                   | (have n21 : ¬ (op = 21 ∧ knownE ((ar[0]?).getD zeroE) = true) := by
                        rintro ⟨a, b⟩
                        first
                          | (have g : decide (op = 21) = false := by assumption
                             exact of_decide_eq_false g a)
                          | (have x0 : ar[0]? = some (.mk op0 m0 ⟨vk0, vn0, vs0⟩ ar0) := hx0
                             have g : knownE (.mk op0 m0 ⟨vk0, vn0, vs0⟩ ar0) = false := by assumption
                             rw [x0, Option.getD_some, g] at b; cases b)
                      rw [if_neg n21, ← hE, cells_mk, hes]))))
end Go.Proofs.Ytnhmnfokbinplaa
