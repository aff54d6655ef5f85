/- vec: what a column that is good or not answers (VecSays), first part. Own work; no condition. -/
import Derived.Test.YtnhmnfokbinplaaVec2
import Derived.Test.YtnhmnfokbinplaaAbs24
namespace Go.Proofs.Ytnhmnfokbinplaa
open Go Go.RowKit
set_option maxRecDepth 100000
set_option linter.unusedSimpArgs false
set_option linter.unusedVariables false

theorem ci (a b : Nat) : ((a : Int) = (b : Int)) = (a = b) := by simp only [eq_iff_iff]; omega
theorem ci0 (a : Nat) : ((a : Int) = 0) = (a = 0) := by simp only [eq_iff_iff]; omega
/-- True at every place below. -/
def allUp (f : Nat → Bool) : Nat → Bool
  | 0 => true
  | n + 1 => allUp f n && f n
theorem allUp_false {f : Nat → Bool} : ∀ {n i : Nat}, i < n → f i = false → allUp f n = false
  | n + 1, i, h, hf => by
    simp only [allUp]
    rcases Nat.lt_or_ge i n with g | g
    · rw [allUp_false g hf]; rfl
    · rw [show i = n by omega] at hf; rw [hf]; simp
theorem allUp_succ {f : Nat → Bool} {n : Nat} (h : allUp f n = true) (hf : f n = true) : allUp f (n + 1) = true := by simp [allUp, h, hf]

def okN (B : List Bool) (N : List Int) (i : Nat) : Bool := !((B[i]?).getD false && !decide ((N[i]?).getD 0 = 0))
def okS (B : List Bool) (S : List ByteArray) (i : Nat) : Bool :=
  !((B[i]?).getD false && !decide ((S[i]?).getD ⟨⟨[]⟩⟩ = ⟨⟨[]⟩⟩)) && !decide ((1000 : Int) < (((S[i]?).getD ⟨⟨[]⟩⟩).size : Int))
def goodV (v : Vec) : Bool :=
  if v.kind = 1 then decide (v.ns.length = v.null.length) && decide (v.ss.length = 0) && allUp (okN v.null v.ns) v.ns.length
  else if v.kind = 2 then decide (v.ss.length = v.null.length) && decide (v.ns.length = 0) && allUp (okS v.null v.ss) v.ss.length
  else false

/-- Rows and lists of numbers that are the same are told so. -/
theorem sameRow_c (V : List Val) (L : List (List PV)) (hL : V.map Val.cells = L) : PCall Try.prog 33 [.sl L, .sl L] fun r => r = [.bool true] := by
  refine PCall.know c33 fun hkn => ?_
  have k1 : L.length ≤ maxLen := hkn (.sl L) (by simp)
  clear hkn
  rw [maxLen_eq] at k1
  have b1 : L.length = V.length := by rw [← hL]; simp
  refine PCall.x (nt := 26) (res := [.tmp 4]) mixed tt_ok [] Try.func33 rfl rfl rfl c33 (Nat.le_of_ble_eq_true rfl) ?_
  intro cp cc lp Q' hcp hcc hlp hQ
  repeat' (first
    | (with_reducible refine Nm.mk ?_; intro z hz)
    | (with_reducible refine IfB.mk ?_ ?_ <;> (intro h; cases h))
    | (with_reducible refine Asm.mk ?_ ?_; focus (first | kernel_rfl | decide))
    | (with_reducible refine Asm.mk2 ?_ ?_)
    | ((fail_if_success (with_reducible refine hQ _ ?_)); (fail_if_success (with_reducible refine Side.mk ?_)); (fail_if_success (with_reducible refine isCP hcp ?_)); (fail_if_success (with_reducible refine isCC hcc ?_)); (fail_if_success (with_reducible refine isLP hlp ?_)); (fail_if_success (with_reducible refine Ix.mk ?_)); (fail_if_success (with_reducible refine SIx.mk ?_)); (fail_if_success (with_reducible refine SEx.mk ?_)); (fail_if_success (with_reducible refine EIx.mk ?_)); (fail_if_success (with_reducible refine RIx.mk ?_)); (fail_if_success (with_reducible show False)); (fail_if_success (with_reducible refine hR ?_ _ ?_ ?_ ?_ ?_ ?_)); (fail_if_success (with_reducible refine hR2 ?_ _ ?_ ?_ ?_ ?_ ?_)); cbv))
  all_goals first
    | (exfalso; clear hcp hcc hlp hQ; subst_vars; simp_all; done)
    | skip
  all_goals (
    simp only [nc] at hz
    simp only [nc'] at hz
    refine loopK (ι := Int) mixed tt_ok hcp hcc hlp [0, 1, 12] (fun i => [(13, .p (.int .i64 i))]) (fun i => 0 ≤ i ∧ i ≤ z) (fun i => (z - i).toNat) 0 (fun _ => rfl) (by omega) ⟨rfl, trivial⟩ ?_
    intro R i hi hR
    have hi0 : 0 ≤ i := hi.1
    have hkl : decide (i < z) = true → i < V.length := by simp only [decide_eq_true_eq]; omega
    have hst : decide (i < z) = true → IntKind.i64.wrap (i + 1) = i + 1 ∧ (0 ≤ i + 1 ∧ i + 1 ≤ z) ∧ (z - (i + 1)).toNat < (z - i).toNat := by
      intro h
      simp only [decide_eq_true_eq] at h
      exact ⟨wrap_in (by omega), by omega, by omega⟩)
  repeat' (first
    | (with_reducible refine Nm.mk ?_; intro z hz)
    | (with_reducible refine IfB.mk ?_ ?_ <;> (intro h; cases h))
    | (with_reducible refine Asm.mk ?_ ?_; focus kernel_rfl)
    | (with_reducible refine Ix.at_ hL cells_len (by decide) hi0 (by assumption) ?_)
    | (with_reducible refine Ix.map hL cells_len (by decide) hi0 (hkl (by assumption)) ?_; intro x hx)
    | (with_reducible refine Asm.mk2 ?_ ?_)
    | ((fail_if_success (with_reducible refine hQ _ ?_)); (fail_if_success (with_reducible refine Side.mk ?_)); (fail_if_success (with_reducible refine isCP hcp ?_)); (fail_if_success (with_reducible refine isCC hcc ?_)); (fail_if_success (with_reducible refine isLP hlp ?_)); (fail_if_success (with_reducible refine Ix.mk ?_)); (fail_if_success (with_reducible refine SIx.mk ?_)); (fail_if_success (with_reducible refine SEx.mk ?_)); (fail_if_success (with_reducible refine EIx.mk ?_)); (fail_if_success (with_reducible refine RIx.mk ?_)); (fail_if_success (with_reducible show False)); (fail_if_success (with_reducible refine hR ?_ _ ?_ ?_ ?_ ?_ ?_)); (fail_if_success (with_reducible refine hR2 ?_ _ ?_ ?_ ?_ ?_ ?_)); cbv))
  all_goals first
    | (exfalso; simp_all [sbeq_eq, eqB, eq1]; done)
    | (obtain ⟨e1, e2, e3⟩ := hst (by assumption)
       rw [e1] at hz
       exact hR (i + 1) _ e2 e3 ⟨hz ▸ rfl, trivial⟩ ⟨rfl, rfl, rfl, trivial⟩ rfl)
    | exact hQ _ rfl
theorem sameNums_c (V : List Int) (L : List (List PV)) (hL : V.map i64c = L) : PCall Try.prog 41 [.sl L, .sl L] fun r => r = [.bool true] := by
  refine PCall.know c41 fun hkn => ?_
  have k1 : L.length ≤ maxLen := hkn (.sl L) (by simp)
  clear hkn
  rw [maxLen_eq] at k1
  have b1 : L.length = V.length := by rw [← hL]; simp
  refine PCall.x (nt := 26) (res := [.tmp 4]) mixed tt_ok [] Try.func41 rfl rfl rfl c41 (Nat.le_of_ble_eq_true rfl) ?_
  intro cp cc lp Q' hcp hcc hlp hQ
  repeat' (first
    | (with_reducible refine Nm.mk ?_; intro z hz)
    | (with_reducible refine IfB.mk ?_ ?_ <;> (intro h; cases h))
    | (with_reducible refine Asm.mk ?_ ?_; focus (first | kernel_rfl | decide))
    | (with_reducible refine Asm.mk2 ?_ ?_)
    | ((fail_if_success (with_reducible refine hQ _ ?_)); (fail_if_success (with_reducible refine Side.mk ?_)); (fail_if_success (with_reducible refine isCP hcp ?_)); (fail_if_success (with_reducible refine isCC hcc ?_)); (fail_if_success (with_reducible refine isLP hlp ?_)); (fail_if_success (with_reducible refine Ix.mk ?_)); (fail_if_success (with_reducible refine SIx.mk ?_)); (fail_if_success (with_reducible refine SEx.mk ?_)); (fail_if_success (with_reducible refine EIx.mk ?_)); (fail_if_success (with_reducible refine RIx.mk ?_)); (fail_if_success (with_reducible show False)); (fail_if_success (with_reducible refine hR ?_ _ ?_ ?_ ?_ ?_ ?_)); (fail_if_success (with_reducible refine hR2 ?_ _ ?_ ?_ ?_ ?_ ?_)); cbv))
  all_goals first
    | (exfalso; clear hcp hcc hlp hQ; subst_vars; simp_all; done)
    | skip
  all_goals (
    simp only [nc] at hz
    simp only [nc'] at hz
    refine loopK (ι := Int) mixed tt_ok hcp hcc hlp [0, 1, 12] (fun i => [(13, .p (.int .i64 i))]) (fun i => 0 ≤ i ∧ i ≤ z) (fun i => (z - i).toNat) 0 (fun _ => rfl) (by omega) ⟨rfl, trivial⟩ ?_
    intro R i hi hR
    have hi0 : 0 ≤ i := hi.1
    have hkl : decide (i < z) = true → i < V.length := by simp only [decide_eq_true_eq]; omega
    have hst : decide (i < z) = true → IntKind.i64.wrap (i + 1) = i + 1 ∧ (0 ≤ i + 1 ∧ i + 1 ≤ z) ∧ (z - (i + 1)).toNat < (z - i).toNat := by
      intro h
      simp only [decide_eq_true_eq] at h
      exact ⟨wrap_in (by omega), by omega, by omega⟩)
  repeat' (first
    | (with_reducible refine Nm.mk ?_; intro z hz)
    | (with_reducible refine IfB.mk ?_ ?_ <;> (intro h; cases h))
    | (with_reducible refine Asm.mk ?_ ?_; focus kernel_rfl)
    | (with_reducible refine Ix.at_ hL i64c_len (by decide) hi0 (by assumption) ?_)
    | (with_reducible refine Ix.map hL i64c_len (by decide) hi0 (hkl (by assumption)) ?_; intro x hx)
    | (with_reducible refine Asm.mk2 ?_ ?_)
    | ((fail_if_success (with_reducible refine hQ _ ?_)); (fail_if_success (with_reducible refine Side.mk ?_)); (fail_if_success (with_reducible refine isCP hcp ?_)); (fail_if_success (with_reducible refine isCC hcc ?_)); (fail_if_success (with_reducible refine isLP hlp ?_)); (fail_if_success (with_reducible refine Ix.mk ?_)); (fail_if_success (with_reducible refine SIx.mk ?_)); (fail_if_success (with_reducible refine SEx.mk ?_)); (fail_if_success (with_reducible refine EIx.mk ?_)); (fail_if_success (with_reducible refine RIx.mk ?_)); (fail_if_success (with_reducible show False)); (fail_if_success (with_reducible refine hR ?_ _ ?_ ?_ ?_ ?_ ?_)); (fail_if_success (with_reducible refine hR2 ?_ _ ?_ ?_ ?_ ?_ ?_)); cbv))
  all_goals first
    | (exfalso; simp_all [sbeq_eq, eqB, eq1]; done)
    | (obtain ⟨e1, e2, e3⟩ := hst (by assumption)
       rw [e1] at hz
       exact hR (i + 1) _ e2 e3 ⟨hz ▸ rfl, trivial⟩ ⟨rfl, rfl, rfl, trivial⟩ rfl)
    | exact hQ _ rfl

theorem good_c (a : Int) (B : List Bool) (N : List Int) (S : List ByteArray) (n1 n2 n3 : List (List PV)) (h1 : B.map boolc = n1) (h2 : N.map i64c = n2) (h3 : S.map strc = n3) :
    PCall Try.prog 37 [.agg [.int .i64 a, .sl n1, .sl n2, .sl n3]] fun r => r = [.bool (goodV ⟨a, B, N, S⟩)] := by
  refine PCall.know c37 fun hkn => ?_
  have k1 : n1.length ≤ maxLen := hkn (.agg [.int .i64 a, .sl n1, .sl n2, .sl n3]) (by simp) (.sl n1) (by simp)
  have k2 : n2.length ≤ maxLen := hkn (.agg [.int .i64 a, .sl n1, .sl n2, .sl n3]) (by simp) (.sl n2) (by simp)
  have k3 : n3.length ≤ maxLen := hkn (.agg [.int .i64 a, .sl n1, .sl n2, .sl n3]) (by simp) (.sl n3) (by simp)
  clear hkn
  rw [maxLen_eq] at k1 k2 k3
  have b1 : n1.length = B.length := by rw [← h1]; simp
  have b2 : n2.length = N.length := by rw [← h2]; simp
  have b3 : n3.length = S.length := by rw [← h3]; simp
  refine PCall.x (nt := 80) (res := [.tmp 2]) mixed tt_ok [] Try.func37 rfl rfl rfl c37 (Nat.le_of_ble_eq_true rfl) ?_
  intro cp cc lp Q' hcp hcc hlp hQ
  repeat' (first
    | (with_reducible refine Nm.mk ?_; intro z hz)
    | (with_reducible refine IfB.mk ?_ ?_ <;> (intro h; cases h))
    | (with_reducible refine Asm.mk ?_ ?_; focus (first | kernel_rfl | decide))
    | (with_reducible refine Asm.mk2 ?_ ?_)
    | ((fail_if_success (with_reducible refine hQ _ ?_)); (fail_if_success (with_reducible refine Side.mk ?_)); (fail_if_success (with_reducible refine isCP hcp ?_)); (fail_if_success (with_reducible refine isCC hcc ?_)); (fail_if_success (with_reducible refine isLP hlp ?_)); (fail_if_success (with_reducible refine Ix.mk ?_)); (fail_if_success (with_reducible refine SIx.mk ?_)); (fail_if_success (with_reducible refine SEx.mk ?_)); (fail_if_success (with_reducible refine EIx.mk ?_)); (fail_if_success (with_reducible refine RIx.mk ?_)); (fail_if_success (with_reducible show False)); (fail_if_success (with_reducible refine hR ?_ _ ?_ ?_ ?_ ?_ ?_)); (fail_if_success (with_reducible refine hR2 ?_ _ ?_ ?_ ?_ ?_ ?_)); cbv))
  all_goals (try simp only [nc] at *)
  all_goals (try simp only [nc'] at *)
  all_goals first
    | (refine hQ _ ?_; clear hQ hcp hcc hlp; subst_vars; simp_all [goodV, ci, ci0]; done)
    | skip
  · have ha : a = 1 := of_decide_eq_true (by assumption)
    have hBN : N.length = B.length := by clear hQ hcp hcc hlp; subst_vars; simp_all [ci, ci0]
    have hO : S.length = 0 := by clear hQ hcp hcc hlp; subst_vars; simp_all [ci, ci0]
    refine loopK (ι := Int) mixed tt_ok hcp hcc hlp [1, 25, 26] (fun i => [(27, .p (.int .i64 i))]) (fun i => (0 ≤ i ∧ i ≤ z) ∧ allUp (okN B N) i.toNat = true) (fun i => (z - i).toNat) 0 (fun _ => rfl) ⟨by omega, rfl⟩ ⟨rfl, trivial⟩ ?_
    intro R i hi hR
    have hi0 : 0 ≤ i := hi.1.1
    have hi1 : i ≤ z := hi.1.2
    have hup := hi.2
    have hk1 : decide (i < z) = true → i < B.length := by simp only [decide_eq_true_eq]; omega
    have hk2 : decide (i < z) = true → i < N.length := by simp only [decide_eq_true_eq]; omega
    have hbad : decide (i < z) = true → okN B N i.toNat = false → goodV ⟨a, B, N, S⟩ = false := by
      intro h g
      simp only [decide_eq_true_eq] at h
      have := allUp_false (n := N.length) (i := i.toNat) (by omega) g
      subst ha
      simp [goodV, this]
    have hgood : decide (i < z) = false → goodV ⟨a, B, N, S⟩ = true := by
      intro h
      simp only [decide_eq_false_iff_not] at h
      have : i.toNat = N.length := by omega
      rw [this, hBN] at hup
      subst ha
      simp [goodV, hup, hBN, hO]
    have hst : decide (i < z) = true → okN B N i.toNat = true → IntKind.i64.wrap (i + 1) = i + 1 ∧ ((0 ≤ i + 1 ∧ i + 1 ≤ z) ∧ allUp (okN B N) (i + 1).toNat = true) ∧ (z - (i + 1)).toNat < (z - i).toNat := by
      intro h g
      simp only [decide_eq_true_eq] at h
      refine ⟨wrap_in (by omega), ⟨by omega, ?_⟩, by omega⟩
      rw [show (i + 1).toNat = i.toNat + 1 by omega]
      exact allUp_succ hup g
    clear hup
    repeat' (first
      | (with_reducible refine Nm.mk ?_; intro z hz)
      | (with_reducible refine IfB.mk ?_ ?_ <;> (intro h; cases h))
      | (with_reducible refine Asm.mk ?_ ?_; focus kernel_rfl)
      | (with_reducible refine Ix.map h2 i64c_len (by decide) hi0 (hk2 (by assumption)) ?_; intro x hx)
      | (with_reducible refine Ix.map h1 boolc_len (by decide) hi0 (hk1 (by assumption)) ?_; intro y hy)
      | (with_reducible refine Asm.mk2 ?_ ?_)
      | ((fail_if_success (with_reducible refine hQ _ ?_)); (fail_if_success (with_reducible refine Side.mk ?_)); (fail_if_success (with_reducible refine isCP hcp ?_)); (fail_if_success (with_reducible refine isCC hcc ?_)); (fail_if_success (with_reducible refine isLP hlp ?_)); (fail_if_success (with_reducible refine Ix.mk ?_)); (fail_if_success (with_reducible refine SIx.mk ?_)); (fail_if_success (with_reducible refine SEx.mk ?_)); (fail_if_success (with_reducible refine EIx.mk ?_)); (fail_if_success (with_reducible refine RIx.mk ?_)); (fail_if_success (with_reducible show False)); (fail_if_success (with_reducible refine hR ?_ _ ?_ ?_ ?_ ?_ ?_)); (fail_if_success (with_reducible refine hR2 ?_ _ ?_ ?_ ?_ ?_ ?_)); cbv))
    all_goals (try simp only [nc] at *)
    all_goals (try simp only [nc'] at *)
    all_goals first
      | (refine hQ _ ?_; rw [hgood (by assumption)]; done)
      | (refine hQ _ ?_
         rw [hbad (by assumption) (by simp only [okN]; clear hQ hcp hcc hlp hR hst hbad hgood hi; simp_all [sbeq_eq])]; done)
      | (obtain ⟨e1, e2, e3⟩ := hst (by assumption) (by simp only [okN]; clear hQ hcp hcc hlp hR hst hbad hgood hi; simp_all [sbeq_eq])
         clear hst hbad hgood hk1 hk2
         subst_vars
         exact hR (i + 1) _ e2 e3 ⟨congrArg (fun z => some (AV.p (PV.int IntKind.i64 z))) e1, trivial⟩ ⟨rfl, rfl, rfl, trivial⟩ rfl)
  · have ha : a = 2 := of_decide_eq_true (by assumption)
    have hBN : S.length = B.length := by clear hQ hcp hcc hlp; subst_vars; simp_all [ci, ci0]
    have hO : N.length = 0 := by clear hQ hcp hcc hlp; subst_vars; simp_all [ci, ci0]
    refine loopK (ι := Int) mixed tt_ok hcp hcc hlp [1, 58, 59] (fun i => [(60, .p (.int .i64 i))]) (fun i => (0 ≤ i ∧ i ≤ z) ∧ allUp (okS B S) i.toNat = true) (fun i => (z - i).toNat) 0 (fun _ => rfl) ⟨by omega, rfl⟩ ⟨rfl, trivial⟩ ?_
    intro R i hi hR
    have hi0 : 0 ≤ i := hi.1.1
    have hi1 : i ≤ z := hi.1.2
    have hup := hi.2
    have hk1 : decide (i < z) = true → i < B.length := by simp only [decide_eq_true_eq]; omega
    have hk2 : decide (i < z) = true → i < S.length := by simp only [decide_eq_true_eq]; omega
    have hbad : decide (i < z) = true → okS B S i.toNat = false → goodV ⟨a, B, N, S⟩ = false := by
      intro h g
      simp only [decide_eq_true_eq] at h
      have := allUp_false (n := S.length) (i := i.toNat) (by omega) g
      subst ha
      simp [goodV, this]
    have hgood : decide (i < z) = false → goodV ⟨a, B, N, S⟩ = true := by
      intro h
      simp only [decide_eq_false_iff_not] at h
      have : i.toNat = S.length := by omega
      rw [this, hBN] at hup
      subst ha
      simp [goodV, hup, hBN, hO]
    have hst : decide (i < z) = true → okS B S i.toNat = true → IntKind.i64.wrap (i + 1) = i + 1 ∧ ((0 ≤ i + 1 ∧ i + 1 ≤ z) ∧ allUp (okS B S) (i + 1).toNat = true) ∧ (z - (i + 1)).toNat < (z - i).toNat := by
      intro h g
      simp only [decide_eq_true_eq] at h
      refine ⟨wrap_in (by omega), ⟨by omega, ?_⟩, by omega⟩
      rw [show (i + 1).toNat = i.toNat + 1 by omega]
      exact allUp_succ hup g
    clear hup
    repeat' (first
      | (with_reducible refine Nm.mk ?_; intro z hz)
      | (with_reducible refine IfB.mk ?_ ?_ <;> (intro h; cases h))
      | (with_reducible refine Asm.mk ?_ ?_; focus kernel_rfl)
      | (with_reducible refine Ix.map h3 strc_len (by decide) hi0 (hk2 (by assumption)) ?_; intro x hx)
      | (with_reducible refine Ix.map h1 boolc_len (by decide) hi0 (hk1 (by assumption)) ?_; intro y hy)
      | (with_reducible refine Asm.mk2 ?_ ?_)
      | ((fail_if_success (with_reducible refine hQ _ ?_)); (fail_if_success (with_reducible refine Side.mk ?_)); (fail_if_success (with_reducible refine isCP hcp ?_)); (fail_if_success (with_reducible refine isCC hcc ?_)); (fail_if_success (with_reducible refine isLP hlp ?_)); (fail_if_success (with_reducible refine Ix.mk ?_)); (fail_if_success (with_reducible refine SIx.mk ?_)); (fail_if_success (with_reducible refine SEx.mk ?_)); (fail_if_success (with_reducible refine EIx.mk ?_)); (fail_if_success (with_reducible refine RIx.mk ?_)); (fail_if_success (with_reducible show False)); (fail_if_success (with_reducible refine hR ?_ _ ?_ ?_ ?_ ?_ ?_)); (fail_if_success (with_reducible refine hR2 ?_ _ ?_ ?_ ?_ ?_ ?_)); cbv))
    all_goals (try simp only [nc] at *)
    all_goals (try simp only [nc'] at *)
    all_goals first
      | (refine hQ _ ?_; rw [hgood (by assumption)]; done)
      | (refine hQ _ ?_
         rw [hbad (by assumption) (by simp only [okS]; clear hQ hcp hcc hlp hR hst hbad hgood hi; simp_all [sbeq_eq])]; done)
      | (obtain ⟨e1, e2, e3⟩ := hst (by assumption) (by simp only [okS]; clear hQ hcp hcc hlp hR hst hbad hgood hi; simp_all [sbeq_eq])
         clear hst hbad hgood hk1 hk2
         subst_vars
         exact hR (i + 1) _ e2 e3 ⟨congrArg (fun z => some (AV.p (PV.int IntKind.i64 z))) e1, trivial⟩ ⟨rfl, rfl, rfl, trivial⟩ rfl)

end Go.Proofs.Ytnhmnfokbinplaa
