/- Expressions: Strict. Own work; no condition. -/
import Derived.Test.YtnhmnfokbinplaaEx8
namespace Go.Proofs.Ytnhmnfokbinplaa
open Go Go.RowKit
set_option maxRecDepth 100000
set_option linter.unusedSimpArgs false
set_option linter.unusedVariables false

/-- An argument told by its parts is the whole. -/
theorem ACall.head {P : Program} {f : FuncId} {x : AV} {y : PV} {args : List AV} {H : List AObj} {Q : AV → List AObj → Prop} (h : ACall P f (.p y :: args) H Q) (hx : pureX x = some y) : ACall P f (x :: args) H Q :=
  ⟨fun B G w vals wr rv => h.run B G w vals wr ⟨rv.1, fun i z v hz hv => by
    cases i with
    | zero =>
      simp only [List.getElem?_cons_zero, Option.some.injEq] at hz
      subst hz
      rw [pureX_eq] at hx
      exact .p (pure_ok (rv.2 0 x v rfl hv) hx)
    | succ i => exact rv.2 (i + 1) z v hz hv⟩⟩
theorem frameP {P : Program} {cc : FuncId → List AV → List AObj → (AV → List AObj → Prop) → Prop} (hcc : ACall P = cc) {f : FuncId} {args0 args rest : List AV} {x : AV} {y : PV} {H0 H1 H : List AObj} {X : AV} {K : AV → List AObj → Prop} (s : List Nat)
    (h : ACall P f (.p y :: args0) H0 fun r H' => r = X ∧ takeX H' (lenX H1) = H1) (hs : onceX s = true) (hl : lenX H1 = lenX s) (ha : args = x :: rest) (hx : pureX x = some y) (hr : rest = AV.renL s args0) (hH : optL (nth H) s = some (mapX (AObj.ren s) H0)) (hlt : (AV.ltL (lenX s) (.p y :: args0) && ltH (lenX s) H0 && (AV.ltB (lenX s) X && ltH (lenX s) H1)) = true)
    (k : K (AV.ren s X) (backX s s H1 H)) : cc f args H K := by
  subst hcc ha
  rw [lenX_eq s] at hl hlt
  rw [Bool.and_eq_true, Bool.and_eq_true (AV.ltB _ _)] at hlt
  refine ACall.head ?_ hx
  rw [show (AV.p y :: rest) = AV.renL s (.p y :: args0) by rw [hr]; rfl]
  refine h.frame s hs rfl hH hlt.1 ?_
  rintro r H' ⟨rfl, hH'⟩
  rw [hl] at hH'
  rw [hH']
  exact ⟨hlt.2.1, by rw [← lenX_eq]; exact hl, hlt.2.2, k⟩

def isX (x y : Int) : Bool := decide (x = y)
theorem any_isX (x : Int) (l : List Int) : l.any (isX x) = l.contains x := by
  rw [Bool.eq_iff_iff]
  simp [isX]
theorem index_c (x : Int) (l : List Int) (L : List (List PV)) (hL : l.map i64c = L) (hs : l.length ≤ 140737488355328) : PCall Try.prog 180 [.sl L, .int .i64 x] fun r => r = [.int .i64 (idxI (isX x) l 0)] := by
  have hel : L.length = l.length := by rw [← hL]; simp
  obtain ⟨q, hq⟩ : ∃ q, idxI (isX x) l 0 = q := ⟨_, rfl⟩
  rw [hq]
  refine PCall.x (nt := 19) (res := [.tmp 4]) mixed tt_ok [] Try.func180 rfl rfl rfl c180 (Nat.le_of_ble_eq_true rfl) ?_
  intro cp cc lp Q' hcp hcc hlp hQ
  repeat' (first
    | (with_reducible refine Nm.mk ?_; intro z hz)
    | (with_reducible refine IfB.mk ?_ ?_ <;> (intro h; cases h))
    | (with_reducible refine Asm.mk ?_ ?_; focus (first | kernel_rfl | decide))
    | (with_reducible refine Asm.mk2 ?_ ?_)
    | ((fail_if_success (with_reducible refine hQ _ ?_)); (fail_if_success (with_reducible refine Side.mk ?_)); (fail_if_success (with_reducible refine isCP hcp ?_)); (fail_if_success (with_reducible refine isCC hcc ?_)); (fail_if_success (with_reducible refine isLP hlp ?_)); (fail_if_success (with_reducible refine Ix.mk ?_)); (fail_if_success (with_reducible refine SIx.mk ?_)); (fail_if_success (with_reducible refine SEx.mk ?_)); (fail_if_success (with_reducible refine EIx.mk ?_)); (fail_if_success (with_reducible show False)); (fail_if_success (with_reducible refine hR ?_ _ ?_ ?_ ?_ ?_ ?_)); (fail_if_success (with_reducible refine hR2 ?_ _ ?_ ?_ ?_ ?_ ?_)); cbv))
  simp only [nc] at hz
  simp only [nc'] at hz
  have hzl := hz
  clear hz
  rename Int => zl
  refine loopK (ι := Int) mixed tt_ok hcp hcc hlp [0, 1, 7] (fun i => [(8, .p (.int .i64 i))]) (fun i => 0 ≤ i ∧ i ≤ zl ∧ idxI (isX x) (l.drop i.toNat) i = q) (fun i => (zl - i).toNat) 0 (fun _ => rfl) ⟨by omega, by omega, hq⟩ ⟨rfl, trivial⟩ ?_
  rintro R i ⟨hi0, hi1, hiq⟩ hR
  have hk : decide (i < zl) = true → i < l.length := by simp only [decide_eq_true_eq]; omega
  have hst : decide (i < zl) = true → IntKind.i64.wrap (i + 1) = i + 1 ∧ (0 ≤ i + 1 ∧ i + 1 ≤ zl) ∧ (zl - (i + 1)).toNat < (zl - i).toNat := by
    intro h
    have hlt := hk h
    simp only [decide_eq_true_eq] at h
    exact ⟨wrap_in (by omega), by omega, by omega⟩
  have hstep : ∀ y, l[i.toNat]? = some y → q = if isX x y = true then i else idxI (isX x) (l.drop (i + 1).toNat) (i + 1) := by
    intro y hy
    have hlt := (List.getElem?_eq_some_iff.1 hy).1
    rw [← hiq, List.drop_eq_getElem_cons hlt, show (i + 1).toNat = i.toNat + 1 by omega, idxI]
    rw [(List.getElem?_eq_some_iff.1 hy).2]
  have hfin : decide (i < zl) = false → q = -1 := by
    simp only [decide_eq_false_iff_not]; intro h
    rw [← hiq, List.drop_eq_nil_of_le (by omega)]; rfl
  repeat' (first
    | (with_reducible refine Nm.mk ?_; intro z hz)
    | (with_reducible refine IfB.mk ?_ ?_ <;> (intro h; cases h))
    | (with_reducible refine Asm.mk ?_ ?_; focus kernel_rfl)
    | (with_reducible refine Ix.map hL i64c_len (by decide) hi0 (hk (by assumption)) ?_; intro y hy)
    | (with_reducible refine Asm.mk2 ?_ ?_)
    | ((fail_if_success (with_reducible refine hQ _ ?_)); (fail_if_success (with_reducible refine Side.mk ?_)); (fail_if_success (with_reducible refine isCP hcp ?_)); (fail_if_success (with_reducible refine isCC hcc ?_)); (fail_if_success (with_reducible refine isLP hlp ?_)); (fail_if_success (with_reducible refine Ix.mk ?_)); (fail_if_success (with_reducible refine SIx.mk ?_)); (fail_if_success (with_reducible refine SEx.mk ?_)); (fail_if_success (with_reducible refine EIx.mk ?_)); (fail_if_success (with_reducible show False)); (fail_if_success (with_reducible refine hR ?_ _ ?_ ?_ ?_ ?_ ?_)); (fail_if_success (with_reducible refine hR2 ?_ _ ?_ ?_ ?_ ?_ ?_)); cbv))
  all_goals first
    | (have e := hstep _ hy
       obtain ⟨e1, u, mu⟩ := hst (by assumption)
       first
         | (have g : decide (x = y) = true := by assumption
            refine hQ _ ?_
            rw [e, if_pos (show isX x y = true from g)])
         | (rw [e1] at hz
            have g : decide (x = y) = false := by assumption
            rw [if_neg (show ¬ isX x y = true by rw [isX, g]; decide)] at e
            exact hR (i + 1) _ ⟨u.1, u.2, e.symm⟩ mu ⟨hz ▸ rfl, trivial⟩ ⟨rfl, rfl, rfl, trivial⟩ rfl))
    | (refine hQ _ ?_
       rw [hfin (by assumption)])
theorem contains_c (x : Int) (l : List Int) (L : List (List PV)) (hL : l.map i64c = L) (hs : l.length ≤ 140737488355328) : PCall Try.prog 121 [.sl L, .int .i64 x] fun r => r = [.bool (l.contains x)] := by
  have h := index_c x l L hL hs
  have ha := idxI_any (isX x) l 0 (by decide)
  rw [← any_isX]
  refine PCall.x (nt := 9) (res := [.tmp 4]) mixed tt_ok [] Try.func121 rfl rfl rfl c121 (Nat.le_of_ble_eq_true rfl) ?_
  intro cp cc lp Q' hcp hcc hlp hQ
  repeat' (first
    | (with_reducible refine Nm.mk ?_; intro z hz)
    | (with_reducible refine IfB.mk ?_ ?_ <;> (intro h; cases h))
    | (with_reducible refine Asm.mk ?_ ?_; focus (first | kernel_rfl | decide))
    | (with_reducible refine isCP hcp ?_; first | (refine iP hcp (h) ?_; intro z hz))
    | (with_reducible refine isCC hcc ?_; first | (refine iA hcc (h) rfl ?_; intro z hz))
    | (with_reducible refine Asm.mk2 ?_ ?_)
    | ((fail_if_success (with_reducible refine hQ _ ?_)); (fail_if_success (with_reducible refine Side.mk ?_)); (fail_if_success (with_reducible refine isCP hcp ?_)); (fail_if_success (with_reducible refine isCC hcc ?_)); (fail_if_success (with_reducible refine isLP hlp ?_)); (fail_if_success (with_reducible refine Ix.mk ?_)); (fail_if_success (with_reducible refine SIx.mk ?_)); (fail_if_success (with_reducible refine SEx.mk ?_)); (fail_if_success (with_reducible refine EIx.mk ?_)); (fail_if_success (with_reducible show False)); (fail_if_success (with_reducible refine hR ?_ _ ?_ ?_ ?_ ?_ ?_)); (fail_if_success (with_reducible refine hR2 ?_ _ ?_ ?_ ?_ ?_ ?_)); cbv))
  all_goals (refine hQ _ ?_; clear hQ hcp hcc hlp h; congr 2; subst_vars; rw [Bool.eq_iff_iff, ← ha]; simp)

/-- The boxes that Strict's two functions share. -/
def nullH (C : List (List PV)) : List AObj := [.cells [.p (.sl C)], .cells [.fn 120 [.ref 0 0, .ref 1 0]]]
def untrueH (C : List (List PV)) : List AObj := [.cells [.p (.sl C)], .cells [.fn 120 [.ref 0 0, .ref 1 0]], .cells [.fn 123 [.ref 1 0, .ref 2 0]]]
def NullC (cs : List Int) (C : List (List PV)) (e : Ex) : Prop := ACall Try.prog 120 [.p (.agg e.cells), .ref 0 0, .ref 1 0] (nullH C) fun r H' => r = .p (.bool (nullM cs e)) ∧ takeX H' 2 = nullH C
end Go.Proofs.Ytnhmnfokbinplaa
