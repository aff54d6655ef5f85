/- cell: Order, Test, Cat, True, with what they call; cell: Test, Cat, True; Expressions: what they are to the walk; their size; Expressions: their size, the walk; Expressions: Size, built; Expressions: mapped; Expressions: what they mean; what is built; parts; Expressions: what is certainly null, what is certainly not true; Expressions: tallyref's number of arguments; Expressions: tallyref's Size, plain: it is the other one's; Expressions: tallyref's Size, walked; Expressions: tallyref's kindOf, its functions; tallyref: values: all that CellSays asks; tallyref: Reckon; the law CellSays; tallyref: what is certainly null, what is certainly not true; Strict; Expressions: the workers that compile makes; Expressions: compile, what it makes; Expressions: nodes, height, what is built; what is worked out ahead; Expressions: others put in for columns; Expressions: Eval; Expressions that came in: what they read as; Expressions: Parts; the law ExprParts; Expressions: Fold; Expressions: tallyref's eval. Own work; no condition. -/
import Derived.Test.YtnhmnfokbinplaaGreatSa43
import Derived.Test.YtnhmnfokbinplaaGreatSa47
import Derived.Test.YtnhmnfokbinplaaGreatAbsX
import Derived.Test.YtnhmnfokbinplaaGreatAbs25
import Derived.Test.YtnhmnfokbinplaaGreatAbsQ
import Derived.Test.YtnhmnfokbinplaaGreatAbsF
namespace Go.Proofs.YtnhmnfokbinplaaGreat
open Go Go.RowKit
set_option maxRecDepth 100000
set_option linter.unusedSimpArgs false
set_option linter.unusedVariables false

def cmpS (a b : ByteArray) : Int := Lib.compareBytes a.data.toList b.data.toList
theorem cmpstr_c (a b : ByteArray) : PCall Tryz.prog 138 [.str a, .str b] fun r => r = [.int .i64 (cmpS a b)] :=
  PCall.ext (fn := Tryz.f138) (e := Extern.BytealgCompare.compare) (by kernel_rfl) Tryz.func138 (by kernel_rfl) rfl (by kernel_rfl) (by kernel_rfl) fun m w vals hv => by
    obtain ⟨u, v, rfl, h1, h2⟩ := args2 hv
    cases h1; cases h2
    exact ⟨_, Lib.run_compareString a b w, .p (.int _ _)⟩
theorem compareString_c (a b : ByteArray) : PCall Tryz.prog 136 [.str a, .str b] fun r => r = [.int .i64 (cmpS a b)] := by
  refine PCall.x (nt := 8) (res := [.tmp 4]) mixed tt_ok [] Tryz.func136 rfl rfl rfl c136 (Nat.le_of_ble_eq_true rfl) ?_
  intro cp cc lp Q' hcp hcc hlp hQ
  repeat' (first
    | (with_reducible refine Nm.mk ?_; intro z hz)
    | (with_reducible refine IfB.mk ?_ ?_ <;> (intro h; cases h))
    | (with_reducible refine Two.l ?_; refine Asm.mk ?_ ?_; focus (decide +kernel))
    | (with_reducible refine Two.r ?_)
    | (with_reducible refine Asm.mk ?_ ?_; focus (first | kernel_rfl | decide))
    | (with_reducible refine isCP hcp ?_; first | (refine iP hcp (cmpstr_c a b) ?_; intro z hz))
    | (with_reducible refine isCC hcc ?_; first | (refine iA hcc (cmpstr_c a b) rfl ?_; intro z hz))
    | (with_reducible refine Asm.mk2 ?_ ?_)
    | ((fail_if_success (with_reducible first | refine hQ _ ?_ | refine Side.mk ?_ | refine isCP hcp ?_ | refine isCC hcc ?_ | refine isLP hlp ?_ | refine Ix.mk ?_ | refine SIx.mk ?_ | refine SEx.mk ?_ | refine EIx.mk ?_ | refine RIx.mk ?_ | show False | refine hR ?_ _ ?_ ?_ ?_ ?_ ?_ | refine hR2 ?_ _ ?_ ?_ ?_ ?_ ?_)); cbv))
  all_goals (refine hQ _ ?_; clear hQ hcp hcc hlp; subst_vars; simp_all [])
theorem strCompare_c (a b : ByteArray) : PCall Tryz.prog 125 [.str a, .str b] fun r => r = [.int .i64 (cmpS a b)] := by
  refine PCall.x (nt := 8) (res := [.tmp 4]) mixed tt_ok [] Tryz.func125 rfl rfl rfl c125 (Nat.le_of_ble_eq_true rfl) ?_
  intro cp cc lp Q' hcp hcc hlp hQ
  repeat' (first
    | (with_reducible refine Nm.mk ?_; intro z hz)
    | (with_reducible refine IfB.mk ?_ ?_ <;> (intro h; cases h))
    | (with_reducible refine Two.l ?_; refine Asm.mk ?_ ?_; focus (decide +kernel))
    | (with_reducible refine Two.r ?_)
    | (with_reducible refine Asm.mk ?_ ?_; focus (first | kernel_rfl | decide))
    | (with_reducible refine isCP hcp ?_; first | (refine iP hcp (compareString_c a b) ?_; intro z hz))
    | (with_reducible refine isCC hcc ?_; first | (refine iA hcc (compareString_c a b) rfl ?_; intro z hz))
    | (with_reducible refine Asm.mk2 ?_ ?_)
    | ((fail_if_success (with_reducible first | refine hQ _ ?_ | refine Side.mk ?_ | refine isCP hcp ?_ | refine isCC hcc ?_ | refine isLP hlp ?_ | refine Ix.mk ?_ | refine SIx.mk ?_ | refine SEx.mk ?_ | refine EIx.mk ?_ | refine RIx.mk ?_ | show False | refine hR ?_ _ ?_ ?_ ?_ ?_ ?_ | refine hR2 ?_ _ ?_ ?_ ?_ ?_ ?_)); cbv))
  all_goals (refine hQ _ ?_; clear hQ hcp hcc hlp; subst_vars; simp_all [])
def cmpI (a b : Int) : Int := if a < b then -1 else if b < a then 1 else 0
theorem isNaN1 (a : Int) : PCall Tryz.prog 134 [.int .i64 a] fun r => r = [.bool false] := by
  refine PCall.x (nt := 6) (res := [.tmp 2]) mixed tt_ok [] Tryz.func134 rfl rfl rfl c134 (Nat.le_of_ble_eq_true rfl) ?_
  intro cp cc lp Q' hcp hcc hlp hQ
  repeat' (first
    | (with_reducible refine Nm.mk ?_; intro z hz)
    | (with_reducible refine IfB.mk ?_ ?_ <;> (intro h; cases h))
    | (with_reducible refine Two.l ?_; refine Asm.mk ?_ ?_; focus (decide +kernel))
    | (with_reducible refine Two.r ?_)
    | (with_reducible refine Asm.mk ?_ ?_; focus (first | kernel_rfl | decide))
    | (with_reducible refine Asm.mk2 ?_ ?_)
    | ((fail_if_success (with_reducible first | refine hQ _ ?_ | refine Side.mk ?_ | refine isCP hcp ?_ | refine isCC hcc ?_ | refine isLP hlp ?_ | refine Ix.mk ?_ | refine SIx.mk ?_ | refine SEx.mk ?_ | refine EIx.mk ?_ | refine RIx.mk ?_ | show False | refine hR ?_ _ ?_ ?_ ?_ ?_ ?_ | refine hR2 ?_ _ ?_ ?_ ?_ ?_ ?_)); cbv))
  all_goals (refine hQ _ ?_; clear hQ hcp hcc hlp; subst_vars; simp_all [])
theorem isNaN2 (a : Int) : PCall Tryz.prog 135 [.int .i64 a] fun r => r = [.bool false] := by
  refine PCall.x (nt := 6) (res := [.tmp 2]) mixed tt_ok [] Tryz.func135 rfl rfl rfl c135 (Nat.le_of_ble_eq_true rfl) ?_
  intro cp cc lp Q' hcp hcc hlp hQ
  repeat' (first
    | (with_reducible refine Nm.mk ?_; intro z hz)
    | (with_reducible refine IfB.mk ?_ ?_ <;> (intro h; cases h))
    | (with_reducible refine Two.l ?_; refine Asm.mk ?_ ?_; focus (decide +kernel))
    | (with_reducible refine Two.r ?_)
    | (with_reducible refine Asm.mk ?_ ?_; focus (first | kernel_rfl | decide))
    | (with_reducible refine Asm.mk2 ?_ ?_)
    | ((fail_if_success (with_reducible first | refine hQ _ ?_ | refine Side.mk ?_ | refine isCP hcp ?_ | refine isCC hcc ?_ | refine isLP hlp ?_ | refine Ix.mk ?_ | refine SIx.mk ?_ | refine SEx.mk ?_ | refine EIx.mk ?_ | refine RIx.mk ?_ | show False | refine hR ?_ _ ?_ ?_ ?_ ?_ ?_ | refine hR2 ?_ _ ?_ ?_ ?_ ?_ ?_)); cbv))
  all_goals (refine hQ _ ?_; clear hQ hcp hcc hlp; subst_vars; simp_all [])
theorem compare1_c (a b : Int) : PCall Tryz.prog 123 [.int .i64 a, .int .i64 b] fun r => r = [.int .i64 (cmpI a b)] := by
  refine PCall.x (nt := 20) (res := [.tmp 4]) mixed tt_ok [] Tryz.func123 rfl rfl rfl c123 (Nat.le_of_ble_eq_true rfl) ?_
  intro cp cc lp Q' hcp hcc hlp hQ
  repeat' (first
    | (with_reducible refine Nm.mk ?_; intro z hz)
    | (with_reducible refine IfB.mk ?_ ?_ <;> (intro h; cases h))
    | (with_reducible refine Two.l ?_; refine Asm.mk ?_ ?_; focus (decide +kernel))
    | (with_reducible refine Two.r ?_)
    | (with_reducible refine Asm.mk ?_ ?_; focus (first | kernel_rfl | decide))
    | (with_reducible refine isCP hcp ?_; first | (refine bP hcp (isNaN1 a) ?_; intro z hz) | (refine bP hcp (isNaN1 b) ?_; intro z hz))
    | (with_reducible refine isCC hcc ?_; first | (refine bA hcc (isNaN1 a) rfl ?_; intro z hz) | (refine bA hcc (isNaN1 b) rfl ?_; intro z hz))
    | (with_reducible refine Asm.mk2 ?_ ?_)
    | ((fail_if_success (with_reducible first | refine hQ _ ?_ | refine Side.mk ?_ | refine isCP hcp ?_ | refine isCC hcc ?_ | refine isLP hlp ?_ | refine Ix.mk ?_ | refine SIx.mk ?_ | refine SEx.mk ?_ | refine EIx.mk ?_ | refine RIx.mk ?_ | show False | refine hR ?_ _ ?_ ?_ ?_ ?_ ?_ | refine hR2 ?_ _ ?_ ?_ ?_ ?_ ?_)); cbv))
  all_goals (refine hQ _ ?_; clear hQ hcp hcc hlp; subst_vars; simp_all [cmpI]; try omega)
theorem compare2_c (a b : Int) : PCall Tryz.prog 124 [.int .i64 a, .int .i64 b] fun r => r = [.int .i64 (cmpI a b)] := by
  refine PCall.x (nt := 20) (res := [.tmp 4]) mixed tt_ok [] Tryz.func124 rfl rfl rfl c124 (Nat.le_of_ble_eq_true rfl) ?_
  intro cp cc lp Q' hcp hcc hlp hQ
  repeat' (first
    | (with_reducible refine Nm.mk ?_; intro z hz)
    | (with_reducible refine IfB.mk ?_ ?_ <;> (intro h; cases h))
    | (with_reducible refine Two.l ?_; refine Asm.mk ?_ ?_; focus (decide +kernel))
    | (with_reducible refine Two.r ?_)
    | (with_reducible refine Asm.mk ?_ ?_; focus (first | kernel_rfl | decide))
    | (with_reducible refine isCP hcp ?_; first | (refine bP hcp (isNaN2 a) ?_; intro z hz) | (refine bP hcp (isNaN2 b) ?_; intro z hz))
    | (with_reducible refine isCC hcc ?_; first | (refine bA hcc (isNaN2 a) rfl ?_; intro z hz) | (refine bA hcc (isNaN2 b) rfl ?_; intro z hz))
    | (with_reducible refine Asm.mk2 ?_ ?_)
    | ((fail_if_success (with_reducible first | refine hQ _ ?_ | refine Side.mk ?_ | refine isCP hcp ?_ | refine isCC hcc ?_ | refine isLP hlp ?_ | refine Ix.mk ?_ | refine SIx.mk ?_ | refine SEx.mk ?_ | refine EIx.mk ?_ | refine RIx.mk ?_ | show False | refine hR ?_ _ ?_ ?_ ?_ ?_ ?_ | refine hR2 ?_ _ ?_ ?_ ?_ ?_ ?_)); cbv))
  all_goals (refine hQ _ ?_; clear hQ hcp hcc hlp; subst_vars; simp_all [cmpI]; try omega)

def orI : List Int → Int
  | [] => 0
  | x :: r => if x = 0 then orI r else x
theorem or_c (l : List Int) (L : List (List PV)) (hL : l.map i64c = L) (hs : l.length ≤ 1000) : PCall Tryz.prog 122 [.sl L] fun r => r = [.int .i64 (orI l)] := by
  have hLl : L.length = l.length := by rw [← hL]; simp
  refine PCall.x (nt := 18) (res := [.tmp 2]) mixed tt_ok [] Tryz.func122 rfl rfl rfl c122 (Nat.le_of_ble_eq_true rfl) ?_
  intro cp cc lp Q' hcp hcc hlp hQ
  repeat' (first
    | (with_reducible refine Nm.mk ?_; intro z hz)
    | (with_reducible refine IfB.mk ?_ ?_ <;> (intro h; cases h))
    | (with_reducible refine Two.l ?_; refine Asm.mk ?_ ?_; focus (decide +kernel))
    | (with_reducible refine Two.r ?_)
    | (with_reducible refine Asm.mk ?_ ?_; focus (first | kernel_rfl | decide))
    | (with_reducible refine Asm.mk2 ?_ ?_)
    | ((fail_if_success (with_reducible first | refine hQ _ ?_ | refine Side.mk ?_ | refine isCP hcp ?_ | refine isCC hcc ?_ | refine isLP hlp ?_ | refine Ix.mk ?_ | refine SIx.mk ?_ | refine SEx.mk ?_ | refine EIx.mk ?_ | refine RIx.mk ?_ | show False | refine hR ?_ _ ?_ ?_ ?_ ?_ ?_ | refine hR2 ?_ _ ?_ ?_ ?_ ?_ ?_)); cbv))
  simp only [nc] at hz
  simp only [nc'] at hz
  refine loopK (ι := Int) mixed tt_ok hcp hcc hlp [3, 6, 7] (fun i => [(8, .p (.int .i64 i))]) (fun i => (0 ≤ i ∧ i ≤ z) ∧ orI (l.drop i.toNat) = orI l) (fun i => (z - i).toNat) 0 (fun _ => rfl) ⟨by omega, rfl⟩ ⟨rfl, trivial⟩ ?_
  intro R i hi hR
  have hi0 : 0 ≤ i := hi.1.1
  have hi1 : i ≤ z := hi.1.2
  have hd := hi.2
  have hk : decide (i < z) = true → i < l.length := by simp only [decide_eq_true_eq]; omega
  have hge : decide (i < z) = false → l.drop i.toNat = [] := by intro h; simp only [decide_eq_false_iff_not] at h; exact List.drop_eq_nil_of_le (by omega)
  have hst : decide (i < z) = true → IntKind.i64.wrap (i + 1) = i + 1 ∧ (0 ≤ i + 1 ∧ i + 1 ≤ z) ∧ (z - (i + 1)).toNat < (z - i).toNat := by
    intro h
    simp only [decide_eq_true_eq] at h
    exact ⟨wrap_in (by omega), by omega, by omega⟩
  have hdr : ∀ x, l[i.toNat]? = some x → l.drop i.toNat = x :: l.drop (i + 1).toNat := by
    intro x hx
    have hlt := (List.getElem?_eq_some_iff.1 hx).1
    rw [List.drop_eq_getElem_cons hlt, show (i + 1).toNat = i.toNat + 1 by omega]
    congr 1
    exact (List.getElem?_eq_some_iff.1 hx).2
  repeat' (first
    | (with_reducible refine Nm.mk ?_; intro z hz)
    | (with_reducible refine IfB.mk ?_ ?_ <;> (intro h; cases h))
    | (with_reducible refine Two.l ?_; refine Asm.mk ?_ ?_; focus (decide +kernel))
    | (with_reducible refine Two.r ?_)
    | (with_reducible refine Asm.mk ?_ ?_; focus kernel_rfl)
    | (with_reducible refine Ix.map hL i64c_len (by decide) hi0 (hk (by assumption)) ?_; intro x hx)
    | (with_reducible refine Asm.mk2 ?_ ?_)
    | ((fail_if_success (with_reducible first | refine hQ _ ?_ | refine Side.mk ?_ | refine isCP hcp ?_ | refine isCC hcc ?_ | refine isLP hlp ?_ | refine Ix.mk ?_ | refine SIx.mk ?_ | refine SEx.mk ?_ | refine EIx.mk ?_ | refine RIx.mk ?_ | show False | refine hR ?_ _ ?_ ?_ ?_ ?_ ?_ | refine hR2 ?_ _ ?_ ?_ ?_ ?_ ?_)); cbv))
  · refine hQ _ ?_
    rw [← hd, hdr x hx]
    have : ¬ x = 0 := by clear hQ hR hcp hcc hlp; simp_all
    simp [orI, this]
  · obtain ⟨e1, e2, e3⟩ := hst (by assumption)
    rw [e1] at hz
    refine hR (i + 1) _ ⟨e2, ?_⟩ e3 ⟨hz ▸ rfl, trivial⟩ ⟨rfl, rfl, rfl, trivial⟩ rfl
    rw [hdr x hx] at hd
    have : x = 0 := by clear hQ hR hcp hcc hlp; simp_all
    rw [← hd]; simp [orI, this]
  · refine hQ _ ?_
    rw [← hd, hge (by assumption)]; rfl

theorem or3_c (a b c : Int) : PCall Tryz.prog 122 [.sl [[.int .i64 a], [.int .i64 b], [.int .i64 c]]] fun r => r = [.int .i64 (orI [a, b, c])] := or_c [a, b, c] _ rfl (by simp)
def orderV (a b : Val) : Int := orI [cmpI (clean a).k (clean b).k, cmpI (clean a).n (clean b).n, cmpS (clean a).s (clean b).s]
theorem order_c (k n : Int) (s : ByteArray) (k' n' : Int) (s' : ByteArray) : PCall Tryz.prog 100 [.agg [.int .i64 k, .int .i64 n, .str s], .agg [.int .i64 k', .int .i64 n', .str s']] fun r => r = [.int .i64 (orderV ⟨k, n, s⟩ ⟨k', n', s'⟩)] := by
  refine PCall.x (nt := 26) (res := [.tmp 4]) mixed tt_ok [] Tryz.func100 rfl rfl rfl c100 (Nat.le_of_ble_eq_true rfl) ?_
  intro cp cc lp Q' hcp hcc hlp hQ
  repeat' (first
    | (with_reducible refine Nm.mk ?_; intro z hz)
    | (with_reducible refine IfB.mk ?_ ?_ <;> (intro h; cases h))
    | (with_reducible refine Two.l ?_; refine Asm.mk ?_ ?_; focus (decide +kernel))
    | (with_reducible refine Two.r ?_)
    | (with_reducible refine Asm.mk ?_ ?_; focus (first | kernel_rfl | decide))
    | (with_reducible refine isCP hcp ?_; first | (refine vP hcp (clean_c k n s) ?_; intro v hv) | (refine vP hcp (clean_c k' n' s') ?_; intro v hv) | (refine iP hcp (compare1_c _ _) ?_; intro z hz) | (refine iP hcp (compare2_c _ _) ?_; intro z hz) | (refine iP hcp (strCompare_c _ _) ?_; intro z hz) | (refine iP hcp (or3_c _ _ _) ?_; intro z hz))
    | (with_reducible refine isCC hcc ?_; first | (refine vA hcc (clean_c k n s) rfl ?_; intro v hv) | (refine vA hcc (clean_c k' n' s') rfl ?_; intro v hv) | (refine iA hcc (compare1_c _ _) rfl ?_; intro z hz) | (refine iA hcc (compare2_c _ _) rfl ?_; intro z hz) | (refine iA hcc (strCompare_c _ _) rfl ?_; intro z hz) | (refine iA hcc (or3_c _ _ _) rfl ?_; intro z hz))
    | (with_reducible refine Asm.mk2 ?_ ?_)
    | ((fail_if_success (with_reducible first | refine hQ _ ?_ | refine Side.mk ?_ | refine isCP hcp ?_ | refine isCC hcc ?_ | refine isLP hlp ?_ | refine Ix.mk ?_ | refine SIx.mk ?_ | refine SEx.mk ?_ | refine EIx.mk ?_ | refine RIx.mk ?_ | show False | refine hR ?_ _ ?_ ?_ ?_ ?_ ?_ | refine hR2 ?_ _ ?_ ?_ ?_ ?_ ?_)); cbv))
  all_goals (refine hQ _ ?_; clear hQ hcp hcc hlp; subst_vars; simp [orderV])
end Go.Proofs.YtnhmnfokbinplaaGreat

namespace Go.Proofs.YtnhmnfokbinplaaGreat
open Go Go.RowKit
set_option maxRecDepth 100000
set_option linter.unusedSimpArgs false
set_option linter.unusedVariables false

def testO (op o : Int) : Bool := if op = 12 then decide (o = 0) else if op = 13 then !decide (o = 0) else if op = 14 then decide (o < 0) else if op = 15 then decide (o ≤ 0) else if op = 16 then decide (0 < o) else decide (0 ≤ o)
def testV (op : Int) (a b : Val) : Val :=
  if (clean a).k = 0 ∨ (clean b).k = 0 ∨ op < 12 ∨ 17 < op then Val.zero else flag (testO op (orderV (clean a) (clean b)))

theorem array6 {op z : Int} (h1 : ¬ op < 12) (h2 : ¬ 17 < op) (hz : IntKind.i64.wrap (op - 12) = z) {o : Int} {b1 b2 b3 b4 b5 b6 : Bool} (e1 : decide (o = 0) = b1) (e2 : (!decide (o = 0)) = b2) (e3 : decide (o < 0) = b3) (e4 : decide (o ≤ 0) = b4) (e5 : decide (0 < o) = b5) (e6 : decide (0 ≤ o) = b6)
    {K : AV → Prop} (k : K (.p (.bool (testO op o)))) : AIx [.p (.bool b1), .p (.bool b2), .p (.bool b3), .p (.bool b4), .p (.bool b5), .p (.bool b6)] 6 z K := by
  rw [wrap_in (by omega)] at hz
  refine AIx.at_ (.p (.bool (testO op o))) (by omega) (by omega) ?_ k
  have : op = 12 ∨ op = 13 ∨ op = 14 ∨ op = 15 ∨ op = 16 ∨ op = 17 := by omega
  rcases this with rfl | rfl | rfl | rfl | rfl | rfl <;> subst hz <;> subst e1 e2 e3 e4 e5 e6 <;> rfl

theorem test_c (op k n : Int) (s : ByteArray) (k' n' : Int) (s' : ByteArray) : PCall Tryz.prog 79 [.int .i64 op, .agg [.int .i64 k, .int .i64 n, .str s], .agg [.int .i64 k', .int .i64 n', .str s']] fun r => r = [(testV op ⟨k, n, s⟩ ⟨k', n', s'⟩).enc] := by
  have hop1 : decide (op < 12) = false → ¬ op < 12 := by simp
  have hop2 : decide (17 < op) = false → ¬ 17 < op := by simp
  refine PCall.x (nt := 49) (res := [.cell 6 23]) mixed tt_ok [] Tryz.func79 rfl rfl rfl c79 (Nat.le_of_ble_eq_true rfl) ?_
  intro cp cc lp Q' hcp hcc hlp hQ
  repeat' (first
    | (with_reducible refine Nm.mk ?_; intro z hz)
    | (with_reducible refine IfB.mk ?_ ?_ <;> (intro h; cases h))
    | (with_reducible refine Two.l ?_; refine Asm.mk ?_ ?_; focus (decide +kernel))
    | (with_reducible refine Two.r ?_)
    | (with_reducible refine Asm.mk ?_ ?_; focus kernel_rfl)
    | (with_reducible refine isCP hcp ?_; first | (refine vP hcp (clean_c k n s) ?_; intro v hv) | (refine vP hcp (clean_c k' n' s') ?_; intro v hv) | (refine iP hcp (order_c _ _ _ _ _ _) ?_; intro z hz) | (refine vP hcp (flag_c _) ?_; intro v hv))
    | (with_reducible refine isCC hcc ?_; first | (refine vA hcc (clean_c k n s) rfl ?_; intro v hv) | (refine vA hcc (clean_c k' n' s') rfl ?_; intro v hv) | (refine iA hcc (order_c _ _ _ _ _ _) rfl ?_; intro z hz) | (refine vA hcc (flag_c _) rfl ?_; intro v hv))
    | (with_reducible refine array6 (hop1 (by assumption)) (hop2 (by assumption)) (by assumption) (by assumption) (by assumption) (by assumption) (by assumption) (by assumption) (by assumption) ?_)
    | (with_reducible refine Asm.mk2 ?_ ?_)
    | ((fail_if_success (with_reducible first | refine hQ _ ?_ | refine Side.mk ?_ | refine isCP hcp ?_ | refine isCC hcc ?_ | refine isLP hlp ?_ | refine Ix.mk ?_ | refine SIx.mk ?_ | refine SEx.mk ?_ | refine EIx.mk ?_ | refine RIx.mk ?_ | show False | refine hR ?_ _ ?_ ?_ ?_ ?_ ?_ | refine hR2 ?_ _ ?_ ?_ ?_ ?_ ?_)); cbv))
  all_goals (refine hQ _ ?_; clear hQ hcp hcc hlp)
  · have h : testV op ⟨k, n, s⟩ ⟨k', n', s'⟩ = Val.zero := by unfold testV; rw [if_pos]; simp_all
    rw [h]; rfl
  · have h : testV op ⟨k, n, s⟩ ⟨k', n', s'⟩ = Val.zero := by unfold testV; rw [if_pos]; simp_all
    rw [h]; rfl
  · have h : testV op ⟨k, n, s⟩ ⟨k', n', s'⟩ = Val.zero := by unfold testV; rw [if_pos]; simp_all
    rw [h]; rfl
  · have h : testV op ⟨k, n, s⟩ ⟨k', n', s'⟩ = Val.zero := by unfold testV; rw [if_pos]; simp_all
    rw [h]; rfl
  · have h : testV op ⟨k, n, s⟩ ⟨k', n', s'⟩ = v := by
      unfold testV; rw [if_neg (by clear hv; simp_all), ← hv]; unfold testO; clear hv; subst_vars; rfl
    rw [h]; rfl

def catV (a b : Val) : Val := if ¬ a.k = 2 ∨ ¬ b.k = 2 ∨ (1000 : Int) < a.s.size + b.s.size then Val.zero else ⟨2, 0, a.s ++ b.s⟩
theorem cat_c (k n : Int) (s : ByteArray) (k' n' : Int) (s' : ByteArray) (h : s.size ≤ 281474976710656) (h' : s'.size ≤ 281474976710656) : PCall Tryz.prog 76 [.agg [.int .i64 k, .int .i64 n, .str s], .agg [.int .i64 k', .int .i64 n', .str s']] fun r => r = [(catV ⟨k, n, s⟩ ⟨k', n', s'⟩).enc] := by
  have hm : ¬ maxI < ((s.size + s'.size : Nat) : Int) := by
    have : maxI = 9223372036854775807 := by decide
    omega
  have hw : IntKind.i64.wrap ((s.size : Int) + (s'.size : Int)) = s.size + s'.size := wrap_in (by omega)
  refine PCall.x (nt := 30) (res := [.cell 4 23]) mixed tt_ok [] Tryz.func76 rfl rfl rfl c76 (Nat.le_of_ble_eq_true rfl) ?_
  intro cp cc lp Q' hcp hcc hlp hQ
  repeat' (first
    | (with_reducible refine Nm.mk ?_; intro z hz)
    | (with_reducible refine IfB.mk ?_ ?_ <;> (intro h; cases h))
    | (with_reducible refine Two.l ?_; refine Asm.mk ?_ ?_; focus (decide +kernel))
    | (with_reducible refine Two.r ?_)
    | (with_reducible refine Asm.mk ?_ ?_; focus (first | exact hm | kernel_rfl | decide))
    | (with_reducible refine Asm.mk2 ?_ ?_)
    | ((fail_if_success (with_reducible first | refine hQ _ ?_ | refine Side.mk ?_ | refine isCP hcp ?_ | refine isCC hcc ?_ | refine isLP hlp ?_ | refine Ix.mk ?_ | refine SIx.mk ?_ | refine SEx.mk ?_ | refine EIx.mk ?_ | refine RIx.mk ?_ | show False | refine hR ?_ _ ?_ ?_ ?_ ?_ ?_ | refine hR2 ?_ _ ?_ ?_ ?_ ?_ ?_)); cbv))
  · refine hQ _ ?_
    have e : catV ⟨k, n, s⟩ ⟨k', n', s'⟩ = Val.zero := by unfold catV; rw [if_pos]; left; clear hQ hcp hcc hlp; simp_all
    rw [e]; rfl
  · refine hQ _ ?_
    have e : catV ⟨k, n, s⟩ ⟨k', n', s'⟩ = Val.zero := by unfold catV; rw [if_pos]; right; left; clear hQ hcp hcc hlp; simp_all
    rw [e]; rfl
  · refine hQ _ ?_
    have e : catV ⟨k, n, s⟩ ⟨k', n', s'⟩ = Val.zero := by
      unfold catV; rw [if_pos]; right; right
      clear hQ hcp hcc hlp hm
      rename_i y1 h1 y2 h2 h3
      simp only [nc] at *
      simp only [nc'] at *
      subst h1 h2
      rw [hw] at h3
      subst h3
      exact of_decide_eq_true hz
    rw [e]; rfl
  · refine hQ _ ?_
    have e : catV ⟨k, n, s⟩ ⟨k', n', s'⟩ = ⟨2, 0, s ++ s'⟩ := by
      unfold catV; rw [if_neg]
      rename_i g1 g2 y1 h1 y2 h2 y3 h3 h4
      clear hQ hcp hcc hlp hm
      simp only [nc] at *
      simp only [nc'] at *
      subst h1 h2
      rw [hw] at h3
      subst h3
      have h5 := of_decide_eq_false h4
      simp only [Bool.not_eq_false', decide_eq_true_eq] at g1 g2
      simp only [not_or, Decidable.not_not]
      exact ⟨g1, g2, h5⟩
    rw [e, ← hz]; rfl

def trueV (v : Val) : Bool := decide (v.k = 1) && !decide (v.n = 0)
theorem true_c (k n : Int) (s : ByteArray) : PCall Tryz.prog 48 [.agg [.int .i64 k, .int .i64 n, .str s]] fun r => r = [.bool (trueV ⟨k, n, s⟩)] := by
  refine PCall.x (nt := 11) (res := [.tmp 2]) mixed tt_ok [] Tryz.func48 rfl rfl rfl c48 (Nat.le_of_ble_eq_true rfl) ?_
  intro cp cc lp Q' hcp hcc hlp hQ
  repeat' (first
    | (with_reducible refine Nm.mk ?_; intro z hz)
    | (with_reducible refine IfB.mk ?_ ?_ <;> (intro h; cases h))
    | (with_reducible refine Two.l ?_; refine Asm.mk ?_ ?_; focus (decide +kernel))
    | (with_reducible refine Two.r ?_)
    | (with_reducible refine Asm.mk ?_ ?_; focus (first | kernel_rfl | decide))
    | (with_reducible refine Asm.mk2 ?_ ?_)
    | ((fail_if_success (with_reducible first | refine hQ _ ?_ | refine Side.mk ?_ | refine isCP hcp ?_ | refine isCC hcc ?_ | refine isLP hlp ?_ | refine Ix.mk ?_ | refine SIx.mk ?_ | refine SEx.mk ?_ | refine EIx.mk ?_ | refine RIx.mk ?_ | show False | refine hR ?_ _ ?_ ?_ ?_ ?_ ?_ | refine hR2 ?_ _ ?_ ?_ ?_ ?_ ?_)); cbv))
  all_goals (refine hQ _ ?_; clear hQ hcp hcc hlp; subst_vars; simp_all [trueV])
end Go.Proofs.YtnhmnfokbinplaaGreat

namespace Go.Proofs.YtnhmnfokbinplaaGreat
open Go Go.RowKit
set_option maxRecDepth 100000
set_option linter.unusedSimpArgs false
set_option linter.unusedVariables false

inductive Ex where
  | mk (op n : Int) (v : Val) (ar : List Ex)
mutual
def Ex.cells : Ex → List PV
  | .mk op n v ar => [.int .i64 op, .int .i64 n, .int .i64 v.k, .int .i64 v.n, .str v.s, .sl (cellsL ar)]
def cellsL : List Ex → List (List PV)
  | [] => []
  | e :: r => e.cells :: cellsL r
end
theorem cellsL_eq : ∀ l : List Ex, cellsL l = l.map Ex.cells
  | [] => rfl
  | e :: r => by simp [cellsL, cellsL_eq r]
theorem cells_mk (op n : Int) (v : Val) (ar : List Ex) : (Ex.mk op n v ar).cells = [.int .i64 op, .int .i64 n, .int .i64 v.k, .int .i64 v.n, .str v.s, .sl (ar.map Ex.cells)] := by rw [Ex.cells, cellsL_eq]
theorem ex_len (e : Ex) : e.cells.length = 6 := by cases e; rfl
mutual
def Ex.sz : Ex → Nat
  | .mk _ _ _ ar => szL ar + 1
def szL : List Ex → Nat
  | [] => 0
  | e :: r => e.sz + szL r
end
theorem sz_mem : ∀ {l : List Ex} {e : Ex}, e ∈ l → e.sz ≤ szL l
  | [], _, h => by simp at h
  | a :: r, e, h => by
    simp only [szL]
    rcases List.mem_cons.1 h with g | g
    · subst g; omega
    · have := sz_mem g; omega

theorem Ix.ex {es : List (List PV)} {ar : List Ex} {i : Int} {K : List PV → Prop} (hl : ar.map Ex.cells = es) (h0 : 0 ≤ i) (hn : i < ar.length)
    (g : ∀ op n vk vn vs ar' es', ar[i.toNat]? = some (.mk op n ⟨vk, vn, vs⟩ ar') → ar'.map Ex.cells = es' → K [.int .i64 op, .int .i64 n, .int .i64 vk, .int .i64 vn, .str vs, .sl es']) : Ix 6 es i K := by
  refine Ix.map hl ex_len (by decide) h0 hn fun x hx => ?_
  obtain ⟨op, n, ⟨vk, vn, vs⟩, ar'⟩ := x
  rw [cells_mk]
  exact g op n vk vn vs ar' _ hx rfl

def arityE (op : Int) : Int := if op = 1 ∨ op = 2 then 0 else if op = 3 ∨ op = 4 ∨ op = 5 ∨ op = 6 then 1 else if op = 21 then 3 else if 7 ≤ op ∧ op ≤ 20 then 2 else -1
set_option maxHeartbeats 4000000 in
theorem arity_c (op : Int) : PCall Tryz.prog 23 [.int .i64 op] fun r => r = [.int .i64 (arityE op)] := by
  refine PCall.x (nt := 20) (res := [.tmp 2]) mixed tt_ok [] Tryz.func23 rfl rfl rfl c23 (Nat.le_of_ble_eq_true rfl) ?_
  intro cp cc lp Q' hcp hcc hlp hQ
  repeat' (first
    | (with_reducible refine Nm.mk ?_; intro z hz)
    | (with_reducible refine IfB.mk ?_ ?_ <;> (intro h; cases h))
    | (with_reducible refine Two.l ?_; refine Asm.mk ?_ ?_; focus (decide +kernel))
    | (with_reducible refine Two.r ?_)
    | (with_reducible refine Asm.mk ?_ ?_; focus (first | kernel_rfl | decide))
    | (with_reducible refine Asm.mk2 ?_ ?_)
    | ((fail_if_success (with_reducible first | refine hQ _ ?_ | refine Side.mk ?_ | refine isCP hcp ?_ | refine isCC hcc ?_ | refine isLP hlp ?_ | refine Ix.mk ?_ | refine SIx.mk ?_ | refine SEx.mk ?_ | refine EIx.mk ?_ | refine RIx.mk ?_ | show False | refine hR ?_ _ ?_ ?_ ?_ ?_ ?_ | refine hR2 ?_ _ ?_ ?_ ?_ ?_ ?_)); cbv))
  all_goals (refine hQ _ ?_; clear hQ hcp hcc hlp; simp only [decide_eq_true_eq, decide_eq_false_iff_not] at *; congr 2; unfold arityE; (repeat' split) <;> first | omega | (intros; omega))

def mx (a b : Int) : Int := if a < b then b else a
def badE (op n : Int) (v : Val) (len : Nat) : Bool := !decide (arityE op = (len : Int)) || (decide (op = 1) && decide (n < 0)) || (decide (op = 2) && decide (v.k = 2) && decide ((1000 : Int) < (v.s.size : Int)))
mutual
def walkE : Ex → Int → Int → Int → Bool × Int × Int
  | .mk op n v ar, d, nodes, high =>
    if decide (400 < nodes + 1) || decide (40 < d) || badE op n v ar.length then (false, nodes + 1, mx high d) else walkL ar (d + 1) (nodes + 1) (mx high d)
def walkL : List Ex → Int → Int → Int → Bool × Int × Int
  | [], _, n, h => (true, n, h)
  | a :: r, d, n, h => match walkE a d n h with
    | (true, n', h') => walkL r d n' h'
    | (false, n', h') => (false, n', h')
end
mutual
theorem walkE_nodes : ∀ (e : Ex) (d n h : Int) (b : Bool) (n' h' : Int), 0 ≤ n → n ≤ 400 → walkE e d n h = (b, n', h') → 0 ≤ n' ∧ n' ≤ 401 ∧ (b = true → n < n' ∧ n' ≤ 400)
  | .mk op m v ar, d, n, h, b, n', h', h0, h1, he => by
    rw [walkE] at he
    split at he
    · simp only [Prod.mk.injEq] at he
      obtain ⟨rfl, rfl, rfl⟩ := he
      exact ⟨by omega, by omega, fun h => by cases h⟩
    · rename_i hc
      have hn : n + 1 ≤ 400 := by
        simp only [Bool.or_eq_true, decide_eq_true_eq, not_or] at hc
        omega
      have := walkL_nodes ar (d + 1) (n + 1) (mx h d) b n' h' (by omega) hn he
      exact ⟨this.1, this.2.1, fun hb => by have := this.2.2 hb; omega⟩
theorem walkL_nodes : ∀ (l : List Ex) (d n h : Int) (b : Bool) (n' h' : Int), 0 ≤ n → n ≤ 400 → walkL l d n h = (b, n', h') → 0 ≤ n' ∧ n' ≤ 401 ∧ (b = true → n ≤ n' ∧ n' ≤ 400)
  | [], d, n, h, b, n', h', h0, h1, he => by
    simp only [walkL, Prod.mk.injEq] at he
    obtain ⟨rfl, rfl, rfl⟩ := he
    exact ⟨h0, by omega, fun _ => ⟨Int.le_refl _, h1⟩⟩
  | a :: r, d, n, h, b, n', h', h0, h1, he => by
    rw [walkL] at he
    split at he
    · rename_i n1 h2 hw
      have h3 := walkE_nodes a d n h _ _ _ h0 h1 hw
      have h4 := walkL_nodes r d n1 h2 b n' h' h3.1 (h3.2.2 rfl).2 he
      exact ⟨h4.1, h4.2.1, fun hb => by have := h3.2.2 rfl; have := h4.2.2 hb; omega⟩
    · rename_i n1 h2 hw
      have h3 := walkE_nodes a d n h _ _ _ h0 h1 hw
      simp only [Prod.mk.injEq] at he
      obtain ⟨rfl, rfl, rfl⟩ := he
      exact ⟨h3.1, h3.2.1, fun h => by cases h⟩
end

def wH (n h : Int) : List AObj := [.cells [.p (.int .i64 n)], .cells [.p (.int .i64 h)], .cells [.fn 22 [.ref 0 0, .ref 1 0, .ref 2 0]]]
def WalkC (e : Ex) : Prop := ∀ (cells : List PV) (d n h : Int), e.cells = cells → 0 ≤ d → d ≤ 41 → 0 ≤ n → n ≤ 400 → ∃ b n' h', walkE e d n h = (b, n', h') ∧
  ACall Tryz.prog 22 [.p (.ip cells), .p (.int .i64 d), .ref 0 0, .ref 1 0, .ref 2 0] (wH n h) fun r H' => r = .p (.bool b) ∧ takeX H' 3 = wH n' h'

end Go.Proofs.YtnhmnfokbinplaaGreat

namespace Go.Proofs.YtnhmnfokbinplaaGreat
open Go Go.RowKit
set_option maxRecDepth 100000
set_option linter.unusedSimpArgs false
set_option linter.unusedVariables false

set_option maxHeartbeats 4000000 in
theorem walk_c (op m : Int) (v : Val) (ar : List Ex) (es : List (List PV)) (hes : ar.map Ex.cells = es) (IH : ∀ x, x ∈ ar → WalkC x) (d n h : Int) (hd0 : 0 ≤ d) (hd1 : d ≤ 41) (hn0 : 0 ≤ n) (hn1 : n ≤ 400) :
    ACall Tryz.prog 22 [.p (.ip [.int .i64 op, .int .i64 m, .int .i64 v.k, .int .i64 v.n, .str v.s, .sl es]), .p (.int .i64 d), .ref 0 0, .ref 1 0, .ref 2 0] (wH n h) fun r H' => r = .p (.bool (walkE (.mk op m v ar) d n h).1) ∧ takeX H' 3 = wH (walkE (.mk op m v ar) d n h).2.1 (walkE (.mk op m v ar) d n h).2.2 := by
  have hel : es.length = ar.length := by rw [← hes]; simp
  obtain ⟨q, hq⟩ : ∃ q, walkE (.mk op m v ar) d n h = q := ⟨_, rfl⟩
  rw [hq]
  rw [walkE] at hq
  obtain ⟨vk, vn, vs⟩ := v
  have hw1 : IntKind.i64.wrap (n + 1) = n + 1 := wrap_in (by omega)
  have hsz : ((⟨vk, vn, vs⟩ : Val).s.size : Int) = vs.size := rfl
  have hfail : ∀ (zn zh : Int), IntKind.i64.wrap (n + 1) = zn → (if h < d then d else h) = zh →
      (decide (400 < zn) = true ∨ decide (40 < d) = true ∨ (∃ za zl, (!decide (za = zl)) = true ∧ arityE op = za ∧ (es.length : Int) = zl) ∨ (decide (op = 1) = true ∧ decide (m < 0) = true) ∨ (decide (op = 2) = true ∧ decide (vk = 2) = true ∧ ∃ zs, decide ((1000 : Int) < zs) = true ∧ (vs.size : Int) = zs)) → q = (false, zn, zh) := by
    intro zn zh h1 h2 h3
    rw [hw1] at h1
    subst h1 h2
    rw [← hq, if_pos]
    · rfl
    · simp only [badE, Bool.or_eq_true, Bool.and_eq_true, decide_eq_true_eq, Bool.not_eq_true', decide_eq_false_iff_not] at h3 ⊢
      rcases h3 with h3 | h3 | ⟨za, zl, h3, h4, h5⟩ | ⟨h3, h4⟩ | ⟨h3, h4, zs, h5, h6⟩
      · exact .inl (.inl h3)
      · exact .inl (.inr h3)
      · right; left; left; rw [h4, ← hel, h5]; exact h3
      · right; left; right; exact ⟨h3, h4⟩
      · right; right; exact ⟨⟨h3, h4⟩, by rw [hsz, h6]; exact h5⟩
  have hgo : ∀ (zn zh za zl : Int), IntKind.i64.wrap (n + 1) = zn → (if h < d then d else h) = zh → decide (400 < zn) = false → decide (40 < d) = false → (!decide (za = zl)) = false → arityE op = za → (es.length : Int) = zl →
      (decide (op = 1) = false ∨ decide (m < 0) = false) → (decide (op = 2) = false ∨ decide (vk = 2) = false ∨ ∃ zs, decide ((1000 : Int) < zs) = false ∧ (vs.size : Int) = zs) → walkL ar (d + 1) zn zh = q ∧ 0 ≤ zn ∧ zn ≤ 400 ∧ d ≤ 40 ∧ (es.length : Int) ≤ 3 := by
    intro zn zh za zl h1 h2 h3 h4 h5 h6 h7 h8 h9
    rw [hw1] at h1
    subst h1 h2
    simp only [decide_eq_false_iff_not, Bool.not_eq_false', decide_eq_true_eq] at h3 h4 h5
    have ha3 : arityE op ≤ 3 := by unfold arityE; (repeat' split) <;> omega
    refine ⟨?_, by omega, by omega, by omega, by omega⟩
    show walkL ar (d + 1) (n + 1) (mx h d) = q
    rw [← hq, if_neg]
    · simp only [badE, Bool.or_eq_true, Bool.and_eq_true, decide_eq_true_eq, Bool.not_eq_true', decide_eq_false_iff_not, not_or, not_and, Decidable.not_not]
      simp only [decide_eq_false_iff_not] at h8 h9
      refine ⟨⟨h3, h4⟩, ⟨by rw [h6, ← hel, h7]; exact h5, fun a b => ?_⟩, fun a b => ?_⟩
      · rcases h8 with g | g
        · exact g a
        · exact g b
      · rcases h9 with g | g | ⟨zs, g, k⟩
        · exact absurd a.1 g
        · exact absurd a.2 g
        · rw [hsz, k] at b; exact g b
  clear hq
  refine ACall.x (nt := 91) (res := [.tmp 7]) mixed tt_ok [] Tryz.func22 rfl rfl rfl c22 (Nat.le_of_ble_eq_true rfl) ?_
  intro cp cc lp Q' hcp hcc hlp hQ
  repeat' (first
    | (with_reducible refine Nm.mk ?_; intro z hz)
    | (with_reducible refine IfB.mk ?_ ?_ <;> (intro h; cases h))
    | (with_reducible refine Two.l ?_; refine Asm.mk ?_ ?_; focus (decide +kernel))
    | (with_reducible refine Two.r ?_)
    | (with_reducible refine Asm.mk ?_ ?_; focus (first | kernel_rfl | decide))
    | (with_reducible refine isCP hcp ?_; first | (refine iP hcp (arity_c op) ?_; intro z hz))
    | (with_reducible refine isCC hcc ?_; first | (refine iA hcc (arity_c op) rfl ?_; intro z hz))
    | (with_reducible refine Asm.mk2 ?_ ?_)
    | ((fail_if_success (with_reducible first | refine hQ _ _ ?_ | refine Side.mk ?_ | refine isCP hcp ?_ | refine isCC hcc ?_ | refine isLP hlp ?_ | refine Ix.mk ?_ | refine SIx.mk ?_ | refine SEx.mk ?_ | refine EIx.mk ?_ | refine RIx.mk ?_ | show False | refine hR ?_ _ ?_ ?_ ?_ ?_ ?_ | refine hR2 ?_ _ ?_ ?_ ?_ ?_ ?_)); cbv))
  all_goals first
    | (have e : q = _ := hfail _ _ (by assumption) (by assumption) (by first | exact .inl (by assumption) | exact .inr (.inl (by assumption)) | exact .inr (.inr (.inl ⟨_, _, by assumption, by assumption, by assumption⟩)) | exact .inr (.inr (.inr (.inl ⟨by assumption, by assumption⟩))) | exact .inr (.inr (.inr (.inr ⟨by assumption, by assumption, _, by assumption, by assumption⟩))))
       refine hQ _ _ ⟨?_, ?_⟩
       · rw [e]; rfl
       · rw [e]; rfl)
    | (obtain ⟨e, hzn0, hzn1, hd40, hl3⟩ := hgo _ _ _ _ (by assumption) (by assumption) (by assumption) (by assumption) (by assumption) (by assumption) (by assumption) (by first | exact .inl (by assumption) | exact .inr (by assumption)) (by first | exact .inl (by assumption) | exact .inr (.inl (by assumption)) | exact .inr (.inr ⟨_, by assumption, by assumption⟩))
       have hwd : IntKind.i64.wrap (d + 1) = d + 1 := wrap_in (by omega)
       simp only [nc] at hz
       simp only [nc'] at hz
       have hzl := hz
       clear hz
       rename Int => zl
       refine loopX (ι := Int × Int × Int) mixed tt_ok hcp hcc hlp [0, 1, 2, 3, 4, 75] (fun p => [(76, .p (.int .i64 p.1))]) (fun p => wH p.2.1 p.2.2)
         (fun p => 0 ≤ p.1 ∧ p.1 ≤ zl ∧ 0 ≤ p.2.1 ∧ p.2.1 ≤ 400 ∧ walkL (ar.drop p.1.toNat) (d + 1) p.2.1 p.2.2 = q) (fun p => (zl - p.1).toNat) (0, _, _)
         ⟨by show (0 : Int) ≤ 0; omega, by show (0 : Int) ≤ zl; omega, hzn0, hzn1, e⟩ ⟨rfl, trivial⟩ rfl ?_
       rintro R ⟨i, n1, h1⟩ ⟨hi0, hi1, hb0, hb1, hw⟩ hR
       have hi0 : 0 ≤ i := hi0
       have hi1 : i ≤ zl := hi1
       have hb0 : 0 ≤ n1 := hb0
       have hb1 : n1 ≤ 400 := hb1
       have hw : walkL (ar.drop i.toNat) (d + 1) n1 h1 = q := hw
       have hk : decide (i < zl) = true → i < ar.length := by simp only [decide_eq_true_eq]; omega
       have hdr : ∀ x, ar[i.toNat]? = some x → ar.drop i.toNat = x :: ar.drop (i + 1).toNat := by
         intro x hx
         have hlt := (List.getElem?_eq_some_iff.1 hx).1
         rw [List.drop_eq_getElem_cons hlt, show (i + 1).toNat = i.toNat + 1 by omega]
         congr 1
         exact (List.getElem?_eq_some_iff.1 hx).2
       have hend : decide (i < zl) = false → q = (true, n1, h1) := by
         intro hf
         simp only [decide_eq_false_iff_not] at hf
         rw [← hw, List.drop_eq_nil_of_le (by omega)]; rfl
       have hstep : ∀ x b n2 h2, ar[i.toNat]? = some x → walkE x (d + 1) n1 h1 = (b, n2, h2) → (b = false → q = (false, n2, h2)) ∧ (b = true → walkL (ar.drop (i + 1).toNat) (d + 1) n2 h2 = q ∧ 0 ≤ n2 ∧ n2 ≤ 400) := by
         intro x b n2 h2 hx he
         have hn := walkE_nodes _ _ _ _ _ _ _ hb0 hb1 he
         rw [hdr x hx, walkL, he] at hw
         constructor
         · intro hb; subst hb; exact hw.symm
         · intro hb; subst hb; exact ⟨hw, hn.1, (hn.2.2 rfl).2⟩
       have hcallr : ∀ (op' m' vk' vn' : Int) (vs' : ByteArray) (ar' : List Ex) (es' : List (List PV)) (z' : Int), ar[i.toNat]? = some (.mk op' m' ⟨vk', vn', vs'⟩ ar') → ar'.map Ex.cells = es' → IntKind.i64.wrap (d + 1) = z' → ∃ b n2 h2, (walkE (.mk op' m' ⟨vk', vn', vs'⟩ ar') (d + 1) n1 h1 = (b, n2, h2) ∧ z' = d + 1) ∧
           ACall Tryz.prog 22 [.p (.ip [.int .i64 op', .int .i64 m', .int .i64 vk', .int .i64 vn', .str vs', .sl es']), .p (.int .i64 z'), .ref 0 0, .ref 1 0, .ref 2 0] (wH n1 h1) fun r H' => r = .p (.bool b) ∧ takeX H' 3 = wH n2 h2 := by
         intro op' m' vk' vn' vs' ar' es' z' hx he hz'
         rw [hwd] at hz'
         subst hz'
         obtain ⟨b, n2, h2, k1, k2⟩ := IH _ (List.mem_of_getElem? hx) _ (d + 1) n1 h1 (by rw [cells_mk, he]) (by omega) (by omega) hb0 hb1
         exact ⟨b, n2, h2, ⟨k1, rfl⟩, k2⟩
       repeat' (first
         | (with_reducible refine Nm.mk ?_; intro z hz)
         | (with_reducible refine IfB.mk ?_ ?_ <;> (intro h; cases h))
         | (with_reducible refine Two.l ?_; refine Asm.mk ?_ ?_; focus (decide +kernel))
         | (with_reducible refine Two.r ?_)
         | (with_reducible refine Asm.mk ?_ ?_; focus kernel_rfl)
         | (with_reducible refine Ix.ex hes hi0 (hk (by assumption)) ?_; intro op' m' vk' vn' vs' ar' es' hx hes')
         | (with_reducible refine isCC hcc ?_; obtain ⟨b', n2, h2, ⟨hwe, hz'⟩, hcall⟩ := hcallr _ _ _ _ _ _ _ _ hx hes' (by assumption); refine frameA (H1 := wH n2 h2) hcc [0, 1, 2] hcall rfl rfl rfl rfl rfl ?_)
         | (with_reducible refine Asm.mk2 ?_ ?_)
         | ((fail_if_success (with_reducible first | refine hQ _ _ ?_ | refine Side.mk ?_ | refine isCP hcp ?_ | refine isCC hcc ?_ | refine isLP hlp ?_ | refine Ix.mk ?_ | refine SIx.mk ?_ | refine SEx.mk ?_ | refine EIx.mk ?_ | refine RIx.mk ?_ | show False | refine hR ?_ _ ?_ ?_ ?_ ?_ ?_ | refine hR2 ?_ _ ?_ ?_ ?_ ?_ ?_)); cbv))
       all_goals first
         | (have hb' : (!b') = true := by assumption
            have e : q = (false, n2, h2) := (hstep _ _ _ _ hx hwe).1 (by simpa using hb')
            refine hQ _ _ ⟨?_, ?_⟩
            · rw [e]; rfl
            · rw [e]; rfl)
         | (have hb' : (!b') = false := by assumption
            obtain ⟨g1, g2, g3⟩ := (hstep _ _ _ _ hx hwe).2 (by simpa using hb')
            have hlt := hk (by assumption)
            have e1 : IntKind.i64.wrap (i + 1) = i + 1 := wrap_in (by omega)
            rw [e1] at hz
            refine hR (i + 1, n2, h2) _ ⟨by show 0 ≤ i + 1; omega, by show i + 1 ≤ _; clear hR hQ; simp only [decide_eq_true_eq] at *; omega, g2, g3, g1⟩ (by show Int.toNat _ < Int.toNat _; clear hR hQ; simp only [decide_eq_true_eq] at *; omega) ⟨hz ▸ rfl, trivial⟩ ⟨rfl, rfl, rfl, rfl, rfl, rfl, trivial⟩ rfl)
         | (have e : q = (true, n1, h1) := hend (by assumption)
            refine hQ _ _ ⟨?_, ?_⟩
            · rw [e]; rfl
            · rw [e]; rfl))
end Go.Proofs.YtnhmnfokbinplaaGreat

namespace Go.Proofs.YtnhmnfokbinplaaGreat
open Go Go.RowKit
set_option maxRecDepth 100000
set_option linter.unusedSimpArgs false
set_option linter.unusedVariables false

theorem walk_all : ∀ (k : Nat) (e : Ex), e.sz ≤ k → WalkC e
  | 0, .mk op m v ar, h => by simp [Ex.sz] at h
  | k + 1, .mk op m v ar, h => by
    intro cells d n h' he hd0 hd1 hn0 hn1
    refine ⟨_, _, _, rfl, ?_⟩
    rw [cells_mk] at he
    subst he
    refine walk_c op m v ar _ rfl (fun x hx => walk_all k x ?_) d n h' hd0 hd1 hn0 hn1
    have := sz_mem hx
    simp only [Ex.sz] at h; omega
def sizeM (e : Ex) : Int × Int := if (walkE e 1 0 0).1 = true then ((walkE e 1 0 0).2.1, (walkE e 1 0 0).2.2) else (401, 41)
def builtM (e : Ex) : Bool := decide ((sizeM e).1 ≤ 400)

theorem esize_c (op n vk vn : Int) (vs : ByteArray) (ar : List Ex) (es : List (List PV)) (hes : ar.map Ex.cells = es) :
    PCall Tryz.prog 4 [.agg [.int .i64 op, .int .i64 n, .int .i64 vk, .int .i64 vn, .str vs, .sl es]] fun r => r = [.int .i64 (sizeM (.mk op n ⟨vk, vn, vs⟩ ar)).1, .int .i64 (sizeM (.mk op n ⟨vk, vn, vs⟩ ar)).2] := by
  obtain ⟨b, n', h', hw, hcall⟩ := walk_all _ (.mk op n ⟨vk, vn, vs⟩ ar) (Nat.le_refl _) _ 1 0 0 (by rw [cells_mk]) (by decide) (by decide) (by decide) (by decide)
  have hs : sizeM (.mk op n ⟨vk, vn, vs⟩ ar) = if b = true then (n', h') else (401, 41) := by unfold sizeM; rw [hw]
  rw [hes] at hcall
  refine PCall.x (nt := 13) (res := [.tmp 2, .tmp 3]) mixed tt_ok [(22, [0])] Tryz.func4 rfl rfl rfl c4 (Nat.le_of_ble_eq_true rfl) ?_
  intro cp cc lp Q' hcp hcc hlp hQ
  repeat' (first
    | (with_reducible refine Nm.mk ?_; intro z hz)
    | (with_reducible refine IfB.mk ?_ ?_ <;> (intro h; cases h))
    | (with_reducible refine Two.l ?_; refine Asm.mk ?_ ?_; focus (decide +kernel))
    | (with_reducible refine Two.r ?_)
    | (with_reducible refine Asm.mk ?_ ?_; focus kernel_rfl)
    | (with_reducible refine isCC hcc ?_; refine frameA (H1 := wH n' h') hcc [1, 2, 3] hcall rfl rfl rfl rfl rfl ?_)
    | (with_reducible refine Asm.mk2 ?_ ?_)
    | ((fail_if_success (with_reducible first | refine hQ _ ?_ | refine Side.mk ?_ | refine isCP hcp ?_ | refine isCC hcc ?_ | refine isLP hlp ?_ | refine Ix.mk ?_ | refine SIx.mk ?_ | refine SEx.mk ?_ | refine EIx.mk ?_ | refine RIx.mk ?_ | show False | refine hR ?_ _ ?_ ?_ ?_ ?_ ?_ | refine hR2 ?_ _ ?_ ?_ ?_ ?_ ?_)); cbv))
  all_goals (refine hQ _ ?_; clear hQ hcp hcc hlp; rw [hs]; cases b <;> first | rfl | (simp at hz; done))
theorem ebuilt_c (op n vk vn : Int) (vs : ByteArray) (ar : List Ex) (es : List (List PV)) (hes : ar.map Ex.cells = es) :
    PCall Tryz.prog 25 [.agg [.int .i64 op, .int .i64 n, .int .i64 vk, .int .i64 vn, .str vs, .sl es]] fun r => r = [.bool (builtM (.mk op n ⟨vk, vn, vs⟩ ar))] := by
  have hs := esize_c op n vk vn vs ar es hes
  unfold builtM
  obtain ⟨q, hq⟩ : ∃ q, sizeM (.mk op n ⟨vk, vn, vs⟩ ar) = q := ⟨_, rfl⟩
  rw [hq] at hs ⊢
  refine PCall.x (nt := 12) (res := [.tmp 2]) mixed tt_ok [] Tryz.func25 rfl rfl rfl c25 (Nat.le_of_ble_eq_true rfl) ?_
  intro cp cc lp Q' hcp hcc hlp hQ
  repeat' (first
    | (with_reducible refine Nm.mk ?_; intro z hz)
    | (with_reducible refine IfB.mk ?_ ?_ <;> (intro h; cases h))
    | (with_reducible refine Two.l ?_; refine Asm.mk ?_ ?_; focus (decide +kernel))
    | (with_reducible refine Two.r ?_)
    | (with_reducible refine Asm.mk ?_ ?_; focus (first | kernel_rfl | decide))
    | (with_reducible refine isCP hcp ?_; first | (refine iiP hcp (hs) ?_; intro z w hz hw))
    | (with_reducible refine isCC hcc ?_; first | (refine iiA hcc (hs) rfl ?_; intro z w hz hw))
    | (with_reducible refine Asm.mk2 ?_ ?_)
    | ((fail_if_success (with_reducible first | refine hQ _ ?_ | refine Side.mk ?_ | refine isCP hcp ?_ | refine isCC hcc ?_ | refine isLP hlp ?_ | refine Ix.mk ?_ | refine SIx.mk ?_ | refine SEx.mk ?_ | refine EIx.mk ?_ | refine RIx.mk ?_ | show False | refine hR ?_ _ ?_ ?_ ?_ ?_ ?_ | refine hR2 ?_ _ ?_ ?_ ?_ ?_ ?_)); cbv))
  all_goals (refine hQ _ ?_; clear hQ hcp hcc hlp hs; subst_vars; rfl)
end Go.Proofs.YtnhmnfokbinplaaGreat

namespace Go.Proofs.YtnhmnfokbinplaaGreat
open Go Go.RowKit
set_option maxRecDepth 100000
set_option linter.unusedSimpArgs false
set_option linter.unusedVariables false

section
variable {P : Program} {cp : FuncId → List PV → (CR → Prop) → Prop} {cc : FuncId → List AV → List AObj → (AV → List AObj → Prop) → Prop} {f : FuncId} {args : List PV} {aargs : List AV} {H : List AObj}
theorem exP (hcp : PC1 P = cp) {X : Ex} {K : CR → Prop} (h : PCall P f args fun r => r = [.agg X.cells]) (k : ∀ op n vk vn vs ar es, X = .mk op n ⟨vk, vn, vs⟩ ar → ar.map Ex.cells = es → K (.pure [.agg [.int .i64 op, .int .i64 n, .int .i64 vk, .int .i64 vn, .str vs, .sl es]])) : cp f args K := by
  obtain ⟨op, n, ⟨vk, vn, vs⟩, ar⟩ := X
  rw [cells_mk] at h
  exact callP hcp h fun _ e => e ▸ k op n vk vn vs ar _ rfl rfl
theorem exA (hcc : ACall P = cc) {X : Ex} {K : AV → List AObj → Prop} (h : PCall P f args fun r => r = [.agg X.cells]) (ha : optL pureX aargs = some args) (k : ∀ op n vk vn vs ar es, X = .mk op n ⟨vk, vn, vs⟩ ar → ar.map Ex.cells = es → K (.p (.agg [.int .i64 op, .int .i64 n, .int .i64 vk, .int .i64 vn, .str vs, .sl es])) H) : cc f aargs H K := by
  obtain ⟨op, n, ⟨vk, vn, vs⟩, ar⟩ := X
  rw [cells_mk] at h
  exact callA hcc ha h fun _ e => e ▸ k op n vk vn vs ar _ rfl rfl
theorem pure_p : ∀ cs : List PV, optL pureX (mapX .p cs) = some cs
  | [] => rfl
  | c :: r => by
    have : pureX (.p c) = some c := by rw [pureX_eq]; cases c <;> rfl
    simp only [mapX, optL, this, pure_p r]
theorem ha1 {x : AV} {y : PV} {cs : List PV} (hx : pureX x = some y) : optL pureX (x :: mapX .p cs) = some (y :: cs) := by simp only [optL, hx, pure_p]
theorem hb1 {x : AV} {y : PV} {cs : List PV} (hx : pureX x = some y) : optL pureX (catX [x] (mapX .p cs)) = some (y :: cs) := ha1 hx
theorem hb2 {x x' : AV} {y y' : PV} {cs : List PV} (hx : pureX x = some y) (hx' : pureX x' = some y') : optL pureX (catX [x, x'] (mapX .p cs)) = some (y :: y' :: cs) := by
  show optL pureX (x :: x' :: mapX .p cs) = _
  simp only [optL, hx, hx', pure_p]
end

mutual
def mapE (g : Ex → Ex) : Ex → Ex
  | .mk op n v ar => g (.mk op (if op = 1 then n else 0) (if op = 1 then Val.zero else if op = 2 then clean v else Val.zero) (mapL g ar))
def mapL (g : Ex → Ex) : List Ex → List Ex
  | [] => []
  | e :: r => mapE g e :: mapL g r
end
theorem mapL_eq (g : Ex → Ex) : ∀ l : List Ex, mapL g l = l.map (mapE g)
  | [] => rfl
  | e :: r => by simp [mapL, mapL_eq g r]

theorem same_c (op n : Int) (vk vn : Int) (vs : ByteArray) (es : List (List PV)) : PCall Tryz.prog 42 [.agg [.int .i64 op, .int .i64 n, .int .i64 vk, .int .i64 vn, .str vs, .sl es]] fun r => r = [.agg [.int .i64 op, .int .i64 n, .int .i64 vk, .int .i64 vn, .str vs, .sl es]] := by
  refine PCall.x (nt := 4) (res := [.cell 2 26]) mixed tt_ok [] Tryz.func42 rfl rfl rfl c42 (Nat.le_of_ble_eq_true rfl) ?_
  intro cp cc lp Q' hcp hcc hlp hQ
  repeat' (first
    | (with_reducible refine Nm.mk ?_; intro z hz)
    | (with_reducible refine IfB.mk ?_ ?_ <;> (intro h; cases h))
    | (with_reducible refine Two.l ?_; refine Asm.mk ?_ ?_; focus (decide +kernel))
    | (with_reducible refine Two.r ?_)
    | (with_reducible refine Asm.mk ?_ ?_; focus (first | kernel_rfl | decide))
    | (with_reducible refine Asm.mk2 ?_ ?_)
    | ((fail_if_success (with_reducible first | refine hQ _ ?_ | refine Side.mk ?_ | refine isCP hcp ?_ | refine isCC hcc ?_ | refine isLP hlp ?_ | refine Ix.mk ?_ | refine SIx.mk ?_ | refine SEx.mk ?_ | refine EIx.mk ?_ | refine RIx.mk ?_ | show False | refine hR ?_ _ ?_ ?_ ?_ ?_ ?_ | refine hR2 ?_ _ ?_ ?_ ?_ ?_ ?_)); cbv))
  all_goals (refine hQ _ ?_; clear hQ hcp hcc hlp; subst_vars; simp_all [])

theorem takeS {α : Type} {l : List α} {i : Nat} {x : α} (h : l[i]? = some x) : l.take (i + 1) = l.take i ++ [x] := by rw [List.take_add_one, h]; rfl
theorem okEs_cells (l : List Ex) : okEs 6 (l.map Ex.cells) = true := by
  simp only [okEs, List.all_map, List.all_eq_true]
  intro e _
  obtain ⟨a, b, c, d⟩ := e
  simp [cells_mk, PV.one]
def wideN (n : Nat) : Prop := n * 72 ≤ 140737488355328
set_option maxHeartbeats 1000000 in
theorem mapped_c (g : Ex → Ex) (k : Nat) (caps : List PV) (C : Ex → Prop) (hg : ∀ (op n vk vn : Int) (vs : ByteArray) (ar : List Ex) (es : List (List PV)), C (.mk op n ⟨vk, vn, vs⟩ ar) → ar.map Ex.cells = es → PCall Tryz.prog k (.agg [.int .i64 op, .int .i64 n, .int .i64 vk, .int .i64 vn, .str vs, .sl es] :: caps) fun r => r = [.agg (g (.mk op n ⟨vk, vn, vs⟩ ar)).cells])
    (op n : Int) (v : Val) (ar : List Ex) (es : List (List PV)) (hes : ar.map Ex.cells = es) (hs : wideN ar.length) (hC : C (.mk op (if op = 1 then n else 0) (if op = 1 then Val.zero else if op = 2 then clean v else Val.zero) (ar.map (mapE g))))
    (IH : ∀ x, x ∈ ar → PCall Tryz.prog 41 [.agg x.cells, .fn k caps] fun r => r = [.agg (mapE g x).cells]) :
    PCall Tryz.prog 41 [.agg [.int .i64 op, .int .i64 n, .int .i64 v.k, .int .i64 v.n, .str v.s, .sl es], .fn k caps] fun r => r = [.agg (mapE g (.mk op n v ar)).cells] := by
  have hel : es.length = ar.length := by rw [← hes]; simp
  obtain ⟨q, hq⟩ : ∃ q, mapE g (.mk op n v ar) = q := ⟨_, rfl⟩
  rw [hq]
  rw [mapE, mapL_eq] at hq
  obtain ⟨vk, vn, vs⟩ := v
  unfold wideN at hs
  have hmc : ∀ (op' m' vk' vn' : Int) (vs' : ByteArray) (ar' : List Ex) (es' : List (List PV)) (i : Nat), ar[i]? = some (.mk op' m' ⟨vk', vn', vs'⟩ ar') → ar'.map Ex.cells = es' →
      PCall Tryz.prog 41 [.agg [.int .i64 op', .int .i64 m', .int .i64 vk', .int .i64 vn', .str vs', .sl es'], .fn k caps] fun r => r = [.agg (mapE g (.mk op' m' ⟨vk', vn', vs'⟩ ar')).cells] := by
    intro op' m' vk' vn' vs' ar' es' i hx he
    have := IH _ (List.mem_of_getElem? hx)
    rw [cells_mk, he] at this
    exact this
  refine PCall.x (nt := 43) (res := [.cell 4 26]) mixed tt_ok [] Tryz.func41 rfl rfl rfl c41 (Nat.le_of_ble_eq_true rfl) ?_
  intro cp cc lp Q' hcp hcc hlp hQ
  repeat' (first
    | (with_reducible refine Nm.mk ?_; intro z hz)
    | (with_reducible refine IfB.mk ?_ ?_ <;> (intro h; cases h))
    | (with_reducible refine Two.l ?_; refine Asm.mk ?_ ?_; focus (decide +kernel))
    | (with_reducible refine Two.r ?_)
    | (with_reducible refine Asm.mk ?_ ?_; focus (first | kernel_rfl | decide))
    | (with_reducible refine isCP hcp ?_; first | (refine vP hcp (clean_c vk vn vs) ?_; intro v hv))
    | (with_reducible refine isCC hcc ?_; first | (refine vA hcc (clean_c vk vn vs) rfl ?_; intro v hv))
    | (with_reducible refine Asm.mk2 ?_ ?_)
    | ((fail_if_success (with_reducible first | refine hQ _ ?_ | refine Side.mk ?_ | refine isCP hcp ?_ | refine isCC hcc ?_ | refine isLP hlp ?_ | refine Ix.mk ?_ | refine SIx.mk ?_ | refine SEx.mk ?_ | refine EIx.mk ?_ | refine RIx.mk ?_ | show False | refine hR ?_ _ ?_ ?_ ?_ ?_ ?_ | refine hR2 ?_ _ ?_ ?_ ?_ ?_ ?_)); cbv))
  · have hq' : g (.mk op n ⟨0, 0, ⟨⟨[]⟩⟩⟩ (ar.map (mapE g))) = q := by
      rw [← hq]
      clear hQ hcp hcc hlp hmc hg IH
      first
        | (have e : op = 1 := of_decide_eq_true (by assumption)
           subst e; rfl)
        | (have e : op = 2 := of_decide_eq_true (by assumption)
           subst e; subst_vars; rfl)
        | (have e1 : ¬ op = 1 := of_decide_eq_false (by assumption)
           have e2 : ¬ op = 2 := of_decide_eq_false (by assumption)
           rw [if_neg e1, if_neg e1, if_neg e2]; rfl)
    have hC' : C (.mk op n ⟨0, 0, ⟨⟨[]⟩⟩⟩ (ar.map (mapE g))) := by
      clear hQ hcp hcc hlp hmc hg IH hq hq'
      first
        | (have e : op = 1 := of_decide_eq_true (by assumption)
           subst e; exact hC)
        | (have e : op = 2 := of_decide_eq_true (by assumption)
           subst e; subst_vars; exact hC)
        | (have e1 : ¬ op = 1 := of_decide_eq_false (by assumption)
           have e2 : ¬ op = 2 := of_decide_eq_false (by assumption)
           rw [if_neg e1, if_neg e1, if_neg e2] at hC; exact hC)
    clear hq
    simp only [nc] at hz
    simp only [nc'] at hz
    have hzl := hz
    clear hz
    rename Int => zl
    refine mintX hlp 6 2 5 rfl rfl ?_
    refine loopT (ι := Int × List (List PV) × Nat) mixed tt_ok hcp hcc hlp [1, 2, 4, 5, 25, 26] (fun p => [(27, .p (.int .i64 p.1))])
      (fun p => [.cells [.p (.int .i64 op), .p (.int .i64 n), .p (.int .i64 vk), .p (.int .i64 vn), .p (.str vs), .p (.sl es)], .cells [.p (.int .i64 0), .p (.int .i64 0), .p (.int .i64 0), .p (.int .i64 0), .p (.str ⟨⟨[]⟩⟩), .full []],
        .cells [.p (.int .i64 op), .p (.int .i64 n), .p (.int .i64 0), .p (.int .i64 0), .p (.str ⟨⟨[]⟩⟩), .tok 3 p.2.1], .spare p.2.2 6])
      (fun p => 0 ≤ p.1 ∧ p.1 ≤ zl ∧ (ar.take p.1.toNat).map (fun e => (mapE g e).cells) = p.2.1 ∧ p.2.1.length = p.2.2) (fun p => (zl - p.1).toNat)
      (0, [], 0) 4 (fun _ => rfl) ⟨by show (0 : Int) ≤ 0; omega, by show (0 : Int) ≤ zl; omega, by simp, rfl⟩ ⟨rfl, trivial⟩ rfl ?_
    rintro R ⟨i, L, m⟩ ⟨hi0, hi1, hl, hm⟩ hR
    have hi0 : 0 ≤ i := hi0
    have hi1 : i ≤ zl := hi1
    have hl : (ar.take i.toNat).map (fun e => (mapE g e).cells) = L := hl
    have hm : L.length = m := hm
    have hll : L.length ≤ i.toNat := by rw [← hl]; simp; omega
    have hok : okEs 6 L = true := by
      rw [← hl, show (fun e => (mapE g e).cells) = Ex.cells ∘ mapE g from rfl, ← List.map_map]; exact okEs_cells _
    have hk : decide (i < zl) = true → i < ar.length := by simp only [decide_eq_true_eq]; omega
    have hst : decide (i < zl) = true → L.length + 1 ≤ maxLen ∧ (L.length + 1) * 72 ≤ 140737488355328 ∧ IntKind.i64.wrap (i + 1) = i + 1 ∧ (0 ≤ i + 1 ∧ i + 1 ≤ zl) ∧ (zl - (i + 1)).toNat < (zl - i).toNat := by
      intro h
      have hlt := hk h
      simp only [decide_eq_true_eq] at h
      refine ⟨by simp only [maxLen]; omega, by omega, wrap_in (by omega), by omega, by omega⟩
    have hfin : decide (i < zl) = false → (ar.map (mapE g)).map Ex.cells = L := by
      simp only [decide_eq_false_iff_not]; intro h
      rw [← hl, List.take_of_length_le (by omega), List.map_map]; rfl
    repeat' (first
      | (with_reducible refine Nm.mk ?_; intro z hz)
      | (with_reducible refine IfB.mk ?_ ?_ <;> (intro h; cases h))
      | (with_reducible refine Two.l ?_; refine Asm.mk ?_ ?_; focus (decide +kernel))
      | (with_reducible refine Two.r ?_)
      | (with_reducible refine Asm.mk ?_ ?_; focus (first | kernel_rfl | (have hlt := hk (by assumption); clear hR hQ hk hfin; refine ⟨hm.symm, rfl, hok, rfl, ?_, ?_⟩ <;> simp only [List.length_cons, List.length_nil, maxLen] <;> omega)))
      | (with_reducible refine isCP hcp ?_; first | (refine exP hcp (hmc _ _ _ _ _ _ _ i.toNat (by assumption) (by assumption)) ?_; intro op2 n2 vk2 vn2 vs2 ar2 es2 hX hes2))
      | (with_reducible refine isCC hcc ?_; first | (refine exA hcc (hmc _ _ _ _ _ _ _ i.toNat (by assumption) (by assumption)) rfl ?_; intro op2 n2 vk2 vn2 vs2 ar2 es2 hX hes2))
      | (with_reducible refine Ix.ex hes hi0 (hk (by assumption)) ?_; intro op' m' vk' vn' vs' ar' es' hx hes')
      | (with_reducible refine isCC hcc ?_; refine exA hcc (hg _ _ _ _ _ (ar.map (mapE g)) _ hC' (hfin (by assumption))) (hb1 rfl) ?_; intro op2 n2 vk2 vn2 vs2 ar2 es2 hX hes2)
      | (with_reducible refine Asm.mk2 ?_ ?_)
      | ((fail_if_success (with_reducible first | refine hQ _ ?_ | refine Side.mk ?_ | refine isCP hcp ?_ | refine isCC hcc ?_ | refine isLP hlp ?_ | refine Ix.mk ?_ | refine SIx.mk ?_ | refine SEx.mk ?_ | refine EIx.mk ?_ | refine RIx.mk ?_ | show False | refine hR ?_ _ ?_ ?_ ?_ ?_ ?_ | refine hR2 ?_ _ ?_ ?_ ?_ ?_ ?_)); cbv))
    · refine Side.mk ?_
      obtain ⟨u1, u2, u3⟩ := hst (by assumption)
      exact ⟨hm.symm, rfl, hok, rfl, u1, u2⟩
    · obtain ⟨u1, u2, e1, u3, u4⟩ := hst (by assumption)
      rw [e1] at hz
      rename_i L2 hL2 m2 hm2
      have et : ar.take (i + 1).toNat = ar.take i.toNat ++ [.mk op' m' ⟨vk', vn', vs'⟩ ar'] := by rw [show (i + 1).toNat = i.toNat + 1 by omega, takeS hx]
      refine hR (i + 1, _, _) _ ⟨u3.1, u3.2, ?_, ?_⟩ u4 ⟨hz ▸ rfl, trivial⟩ ⟨rfl, rfl, rfl, rfl, rfl, rfl, trivial⟩ rfl
      · show (ar.take (i + 1).toNat).map (fun e => (mapE g e).cells) = L2
        rw [et, List.map_append, hl, ← hL2]
        simp only [List.map_cons, List.map_nil, hX, cells_mk, hes2]
      · show L2.length = m2
        rw [← hL2, ← hm2, List.length_append]
    · refine hQ _ ?_
      rw [← hq']
      have hX' := hX
      rw [hX', cells_mk, hes2]
  · have hq' : g (.mk op 0 ⟨v.k, v.n, v.s⟩ (ar.map (mapE g))) = q := by
      rw [← hq]
      clear hQ hcp hcc hlp hmc hg IH
      first
        | (have e : op = 1 := of_decide_eq_true (by assumption)
           subst e; rfl)
        | (have e : op = 2 := of_decide_eq_true (by assumption)
           subst e; subst_vars; rfl)
        | (have e1 : ¬ op = 1 := of_decide_eq_false (by assumption)
           have e2 : ¬ op = 2 := of_decide_eq_false (by assumption)
           rw [if_neg e1, if_neg e1, if_neg e2]; rfl)
    have hC' : C (.mk op 0 ⟨v.k, v.n, v.s⟩ (ar.map (mapE g))) := by
      clear hQ hcp hcc hlp hmc hg IH hq hq'
      first
        | (have e : op = 1 := of_decide_eq_true (by assumption)
           subst e; exact hC)
        | (have e : op = 2 := of_decide_eq_true (by assumption)
           subst e; subst_vars; exact hC)
        | (have e1 : ¬ op = 1 := of_decide_eq_false (by assumption)
           have e2 : ¬ op = 2 := of_decide_eq_false (by assumption)
           rw [if_neg e1, if_neg e1, if_neg e2] at hC; exact hC)
    clear hq
    simp only [nc] at hz
    simp only [nc'] at hz
    have hzl := hz
    clear hz
    rename Int => zl
    refine mintX hlp 6 2 5 rfl rfl ?_
    refine loopT (ι := Int × List (List PV) × Nat) mixed tt_ok hcp hcc hlp [1, 2, 4, 5, 25, 26] (fun p => [(27, .p (.int .i64 p.1))])
      (fun p => [.cells [.p (.int .i64 op), .p (.int .i64 n), .p (.int .i64 vk), .p (.int .i64 vn), .p (.str vs), .p (.sl es)], .cells [.p (.int .i64 0), .p (.int .i64 0), .p (.int .i64 0), .p (.int .i64 0), .p (.str ⟨⟨[]⟩⟩), .full []],
        .cells [.p (.int .i64 op), .p (.int .i64 0), .p (.int .i64 v.k), .p (.int .i64 v.n), .p (.str v.s), .tok 3 p.2.1], .spare p.2.2 6])
      (fun p => 0 ≤ p.1 ∧ p.1 ≤ zl ∧ (ar.take p.1.toNat).map (fun e => (mapE g e).cells) = p.2.1 ∧ p.2.1.length = p.2.2) (fun p => (zl - p.1).toNat)
      (0, [], 0) 4 (fun _ => rfl) ⟨by show (0 : Int) ≤ 0; omega, by show (0 : Int) ≤ zl; omega, by simp, rfl⟩ ⟨rfl, trivial⟩ rfl ?_
    rintro R ⟨i, L, m⟩ ⟨hi0, hi1, hl, hm⟩ hR
    have hi0 : 0 ≤ i := hi0
    have hi1 : i ≤ zl := hi1
    have hl : (ar.take i.toNat).map (fun e => (mapE g e).cells) = L := hl
    have hm : L.length = m := hm
    have hll : L.length ≤ i.toNat := by rw [← hl]; simp; omega
    have hok : okEs 6 L = true := by
      rw [← hl, show (fun e => (mapE g e).cells) = Ex.cells ∘ mapE g from rfl, ← List.map_map]; exact okEs_cells _
    have hk : decide (i < zl) = true → i < ar.length := by simp only [decide_eq_true_eq]; omega
    have hst : decide (i < zl) = true → L.length + 1 ≤ maxLen ∧ (L.length + 1) * 72 ≤ 140737488355328 ∧ IntKind.i64.wrap (i + 1) = i + 1 ∧ (0 ≤ i + 1 ∧ i + 1 ≤ zl) ∧ (zl - (i + 1)).toNat < (zl - i).toNat := by
      intro h
      have hlt := hk h
      simp only [decide_eq_true_eq] at h
      refine ⟨by simp only [maxLen]; omega, by omega, wrap_in (by omega), by omega, by omega⟩
    have hfin : decide (i < zl) = false → (ar.map (mapE g)).map Ex.cells = L := by
      simp only [decide_eq_false_iff_not]; intro h
      rw [← hl, List.take_of_length_le (by omega), List.map_map]; rfl
    repeat' (first
      | (with_reducible refine Nm.mk ?_; intro z hz)
      | (with_reducible refine IfB.mk ?_ ?_ <;> (intro h; cases h))
      | (with_reducible refine Two.l ?_; refine Asm.mk ?_ ?_; focus (decide +kernel))
      | (with_reducible refine Two.r ?_)
      | (with_reducible refine Asm.mk ?_ ?_; focus (first | kernel_rfl | (have hlt := hk (by assumption); clear hR hQ hk hfin; refine ⟨hm.symm, rfl, hok, rfl, ?_, ?_⟩ <;> simp only [List.length_cons, List.length_nil, maxLen] <;> omega)))
      | (with_reducible refine isCP hcp ?_; first | (refine exP hcp (hmc _ _ _ _ _ _ _ i.toNat (by assumption) (by assumption)) ?_; intro op2 n2 vk2 vn2 vs2 ar2 es2 hX hes2))
      | (with_reducible refine isCC hcc ?_; first | (refine exA hcc (hmc _ _ _ _ _ _ _ i.toNat (by assumption) (by assumption)) rfl ?_; intro op2 n2 vk2 vn2 vs2 ar2 es2 hX hes2))
      | (with_reducible refine Ix.ex hes hi0 (hk (by assumption)) ?_; intro op' m' vk' vn' vs' ar' es' hx hes')
      | (with_reducible refine isCC hcc ?_; refine exA hcc (hg _ _ _ _ _ (ar.map (mapE g)) _ hC' (hfin (by assumption))) (hb1 rfl) ?_; intro op2 n2 vk2 vn2 vs2 ar2 es2 hX hes2)
      | (with_reducible refine Asm.mk2 ?_ ?_)
      | ((fail_if_success (with_reducible first | refine hQ _ ?_ | refine Side.mk ?_ | refine isCP hcp ?_ | refine isCC hcc ?_ | refine isLP hlp ?_ | refine Ix.mk ?_ | refine SIx.mk ?_ | refine SEx.mk ?_ | refine EIx.mk ?_ | refine RIx.mk ?_ | show False | refine hR ?_ _ ?_ ?_ ?_ ?_ ?_ | refine hR2 ?_ _ ?_ ?_ ?_ ?_ ?_)); cbv))
    · refine Side.mk ?_
      obtain ⟨u1, u2, u3⟩ := hst (by assumption)
      exact ⟨hm.symm, rfl, hok, rfl, u1, u2⟩
    · obtain ⟨u1, u2, e1, u3, u4⟩ := hst (by assumption)
      rw [e1] at hz
      rename_i L2 hL2 m2 hm2
      have et : ar.take (i + 1).toNat = ar.take i.toNat ++ [.mk op' m' ⟨vk', vn', vs'⟩ ar'] := by rw [show (i + 1).toNat = i.toNat + 1 by omega, takeS hx]
      refine hR (i + 1, _, _) _ ⟨u3.1, u3.2, ?_, ?_⟩ u4 ⟨hz ▸ rfl, trivial⟩ ⟨rfl, rfl, rfl, rfl, rfl, rfl, trivial⟩ rfl
      · show (ar.take (i + 1).toNat).map (fun e => (mapE g e).cells) = L2
        rw [et, List.map_append, hl, ← hL2]
        simp only [List.map_cons, List.map_nil, hX, cells_mk, hes2]
      · show L2.length = m2
        rw [← hL2, ← hm2, List.length_append]
    · refine hQ _ ?_
      rw [← hq']
      have hX' := hX
      rw [hX', cells_mk, hes2]
  · have hq' : g (.mk op 0 ⟨0, 0, ⟨⟨[]⟩⟩⟩ (ar.map (mapE g))) = q := by
      rw [← hq]
      clear hQ hcp hcc hlp hmc hg IH
      first
        | (have e : op = 1 := of_decide_eq_true (by assumption)
           subst e; rfl)
        | (have e : op = 2 := of_decide_eq_true (by assumption)
           subst e; subst_vars; rfl)
        | (have e1 : ¬ op = 1 := of_decide_eq_false (by assumption)
           have e2 : ¬ op = 2 := of_decide_eq_false (by assumption)
           rw [if_neg e1, if_neg e1, if_neg e2]; rfl)
    have hC' : C (.mk op 0 ⟨0, 0, ⟨⟨[]⟩⟩⟩ (ar.map (mapE g))) := by
      clear hQ hcp hcc hlp hmc hg IH hq hq'
      first
        | (have e : op = 1 := of_decide_eq_true (by assumption)
           subst e; exact hC)
        | (have e : op = 2 := of_decide_eq_true (by assumption)
           subst e; subst_vars; exact hC)
        | (have e1 : ¬ op = 1 := of_decide_eq_false (by assumption)
           have e2 : ¬ op = 2 := of_decide_eq_false (by assumption)
           rw [if_neg e1, if_neg e1, if_neg e2] at hC; exact hC)
    clear hq
    simp only [nc] at hz
    simp only [nc'] at hz
    have hzl := hz
    clear hz
    rename Int => zl
    refine mintX hlp 6 2 5 rfl rfl ?_
    refine loopT (ι := Int × List (List PV) × Nat) mixed tt_ok hcp hcc hlp [1, 2, 4, 5, 25, 26] (fun p => [(27, .p (.int .i64 p.1))])
      (fun p => [.cells [.p (.int .i64 op), .p (.int .i64 n), .p (.int .i64 vk), .p (.int .i64 vn), .p (.str vs), .p (.sl es)], .cells [.p (.int .i64 0), .p (.int .i64 0), .p (.int .i64 0), .p (.int .i64 0), .p (.str ⟨⟨[]⟩⟩), .full []],
        .cells [.p (.int .i64 op), .p (.int .i64 0), .p (.int .i64 0), .p (.int .i64 0), .p (.str ⟨⟨[]⟩⟩), .tok 3 p.2.1], .spare p.2.2 6])
      (fun p => 0 ≤ p.1 ∧ p.1 ≤ zl ∧ (ar.take p.1.toNat).map (fun e => (mapE g e).cells) = p.2.1 ∧ p.2.1.length = p.2.2) (fun p => (zl - p.1).toNat)
      (0, [], 0) 4 (fun _ => rfl) ⟨by show (0 : Int) ≤ 0; omega, by show (0 : Int) ≤ zl; omega, by simp, rfl⟩ ⟨rfl, trivial⟩ rfl ?_
    rintro R ⟨i, L, m⟩ ⟨hi0, hi1, hl, hm⟩ hR
    have hi0 : 0 ≤ i := hi0
    have hi1 : i ≤ zl := hi1
    have hl : (ar.take i.toNat).map (fun e => (mapE g e).cells) = L := hl
    have hm : L.length = m := hm
    have hll : L.length ≤ i.toNat := by rw [← hl]; simp; omega
    have hok : okEs 6 L = true := by
      rw [← hl, show (fun e => (mapE g e).cells) = Ex.cells ∘ mapE g from rfl, ← List.map_map]; exact okEs_cells _
    have hk : decide (i < zl) = true → i < ar.length := by simp only [decide_eq_true_eq]; omega
    have hst : decide (i < zl) = true → L.length + 1 ≤ maxLen ∧ (L.length + 1) * 72 ≤ 140737488355328 ∧ IntKind.i64.wrap (i + 1) = i + 1 ∧ (0 ≤ i + 1 ∧ i + 1 ≤ zl) ∧ (zl - (i + 1)).toNat < (zl - i).toNat := by
      intro h
      have hlt := hk h
      simp only [decide_eq_true_eq] at h
      refine ⟨by simp only [maxLen]; omega, by omega, wrap_in (by omega), by omega, by omega⟩
    have hfin : decide (i < zl) = false → (ar.map (mapE g)).map Ex.cells = L := by
      simp only [decide_eq_false_iff_not]; intro h
      rw [← hl, List.take_of_length_le (by omega), List.map_map]; rfl
    repeat' (first
      | (with_reducible refine Nm.mk ?_; intro z hz)
      | (with_reducible refine IfB.mk ?_ ?_ <;> (intro h; cases h))
      | (with_reducible refine Two.l ?_; refine Asm.mk ?_ ?_; focus (decide +kernel))
      | (with_reducible refine Two.r ?_)
      | (with_reducible refine Asm.mk ?_ ?_; focus (first | kernel_rfl | (have hlt := hk (by assumption); clear hR hQ hk hfin; refine ⟨hm.symm, rfl, hok, rfl, ?_, ?_⟩ <;> simp only [List.length_cons, List.length_nil, maxLen] <;> omega)))
      | (with_reducible refine isCP hcp ?_; first | (refine exP hcp (hmc _ _ _ _ _ _ _ i.toNat (by assumption) (by assumption)) ?_; intro op2 n2 vk2 vn2 vs2 ar2 es2 hX hes2))
      | (with_reducible refine isCC hcc ?_; first | (refine exA hcc (hmc _ _ _ _ _ _ _ i.toNat (by assumption) (by assumption)) rfl ?_; intro op2 n2 vk2 vn2 vs2 ar2 es2 hX hes2))
      | (with_reducible refine Ix.ex hes hi0 (hk (by assumption)) ?_; intro op' m' vk' vn' vs' ar' es' hx hes')
      | (with_reducible refine isCC hcc ?_; refine exA hcc (hg _ _ _ _ _ (ar.map (mapE g)) _ hC' (hfin (by assumption))) (hb1 rfl) ?_; intro op2 n2 vk2 vn2 vs2 ar2 es2 hX hes2)
      | (with_reducible refine Asm.mk2 ?_ ?_)
      | ((fail_if_success (with_reducible first | refine hQ _ ?_ | refine Side.mk ?_ | refine isCP hcp ?_ | refine isCC hcc ?_ | refine isLP hlp ?_ | refine Ix.mk ?_ | refine SIx.mk ?_ | refine SEx.mk ?_ | refine EIx.mk ?_ | refine RIx.mk ?_ | show False | refine hR ?_ _ ?_ ?_ ?_ ?_ ?_ | refine hR2 ?_ _ ?_ ?_ ?_ ?_ ?_)); cbv))
    · refine Side.mk ?_
      obtain ⟨u1, u2, u3⟩ := hst (by assumption)
      exact ⟨hm.symm, rfl, hok, rfl, u1, u2⟩
    · obtain ⟨u1, u2, e1, u3, u4⟩ := hst (by assumption)
      rw [e1] at hz
      rename_i L2 hL2 m2 hm2
      have et : ar.take (i + 1).toNat = ar.take i.toNat ++ [.mk op' m' ⟨vk', vn', vs'⟩ ar'] := by rw [show (i + 1).toNat = i.toNat + 1 by omega, takeS hx]
      refine hR (i + 1, _, _) _ ⟨u3.1, u3.2, ?_, ?_⟩ u4 ⟨hz ▸ rfl, trivial⟩ ⟨rfl, rfl, rfl, rfl, rfl, rfl, trivial⟩ rfl
      · show (ar.take (i + 1).toNat).map (fun e => (mapE g e).cells) = L2
        rw [et, List.map_append, hl, ← hL2]
        simp only [List.map_cons, List.map_nil, hX, cells_mk, hes2]
      · show L2.length = m2
        rw [← hL2, ← hm2, List.length_append]
    · refine hQ _ ?_
      rw [← hq']
      have hX' := hX
      rw [hX', cells_mk, hes2]
mutual
def Ex.wide : Ex → Prop
  | .mk _ _ _ ar => wideN ar.length ∧ wideL ar
def wideL : List Ex → Prop
  | [] => True
  | e :: r => e.wide ∧ wideL r
end
theorem wide_mem : ∀ {l : List Ex} {e : Ex}, wideL l → e ∈ l → e.wide
  | [], _, _, h => by simp at h
  | a :: r, e, hw, h => by
    rcases List.mem_cons.1 h with g | g
    · subst g; exact hw.1
    · exact wide_mem hw.2 g
mutual
def CondE (C : Ex → Prop) (g : Ex → Ex) : Ex → Prop
  | .mk op n v ar => C (.mk op (if op = 1 then n else 0) (if op = 1 then Val.zero else if op = 2 then clean v else Val.zero) (mapL g ar)) ∧ CondL C g ar
def CondL (C : Ex → Prop) (g : Ex → Ex) : List Ex → Prop
  | [] => True
  | e :: r => CondE C g e ∧ CondL C g r
end
theorem cond_mem {C : Ex → Prop} {g : Ex → Ex} : ∀ {l : List Ex} {e : Ex}, CondL C g l → e ∈ l → CondE C g e
  | [], _, _, h => by simp at h
  | a :: r, e, hw, h => by
    rcases List.mem_cons.1 h with q | q
    · subst q; exact hw.1
    · exact cond_mem hw.2 q
theorem cond_true {C : Ex → Prop} {g : Ex → Ex} (h : ∀ e, C e) : ∀ (m : Nat) (e : Ex), e.sz ≤ m → CondE C g e
  | 0, .mk op n v ar, hs => by simp [Ex.sz] at hs
  | m + 1, .mk op n v ar, hs => by
    refine ⟨h _, ?_⟩
    have : ∀ l : List Ex, (∀ x, x ∈ l → CondE C g x) → CondL C g l := by
      intro l
      induction l with
      | nil => intro _; trivial
      | cons a r ih => intro hl; exact ⟨hl a (by simp), ih fun x hx => hl x (by simp [hx])⟩
    refine this ar fun x hx => cond_true h m x ?_
    have := sz_mem hx
    simp only [Ex.sz] at hs; omega
theorem mapped_all (g : Ex → Ex) (k : Nat) (caps : List PV) (C : Ex → Prop) (hg : ∀ (op n vk vn : Int) (vs : ByteArray) (ar : List Ex) (es : List (List PV)), C (.mk op n ⟨vk, vn, vs⟩ ar) → ar.map Ex.cells = es → PCall Tryz.prog k (.agg [.int .i64 op, .int .i64 n, .int .i64 vk, .int .i64 vn, .str vs, .sl es] :: caps) fun r => r = [.agg (g (.mk op n ⟨vk, vn, vs⟩ ar)).cells]) :
    ∀ (m : Nat) (e : Ex), e.sz ≤ m → e.wide → CondE C g e → PCall Tryz.prog 41 [.agg e.cells, .fn k caps] fun r => r = [.agg (mapE g e).cells]
  | 0, .mk op n v ar, h, _, _ => by simp [Ex.sz] at h
  | m + 1, .mk op n v ar, h, hw, hc => by
    rw [cells_mk]
    refine mapped_c g k caps C hg op n v ar _ rfl hw.1 (by rw [← mapL_eq]; exact hc.1) fun x hx => mapped_all g k caps C hg m x ?_ (wide_mem hw.2 hx) (cond_mem hc.2 hx)
    have := sz_mem hx
    simp only [Ex.sz] at h; omega
theorem copy_c (op n vk vn : Int) (vs : ByteArray) (ar : List Ex) (es : List (List PV)) (hes : ar.map Ex.cells = es) (hw : (Ex.mk op n ⟨vk, vn, vs⟩ ar).wide) :
    PCall Tryz.prog 41 [.agg [.int .i64 op, .int .i64 n, .int .i64 vk, .int .i64 vn, .str vs, .sl es], .fn 42 []] fun r => r = [.agg (mapE id (.mk op n ⟨vk, vn, vs⟩ ar)).cells] := by
  have := mapped_all id 42 [] (fun _ => True) (fun op n vk vn vs ar es _ h => by rw [show id (Ex.mk op n ⟨vk, vn, vs⟩ ar) = Ex.mk op n ⟨vk, vn, vs⟩ ar from rfl, cells_mk, h]; exact same_c op n vk vn vs es) _ _ (Nat.le_refl _) hw (cond_true (fun _ => trivial) _ _ (Nat.le_refl _))
  rw [cells_mk, hes] at this
  exact this
end Go.Proofs.YtnhmnfokbinplaaGreat

namespace Go.Proofs.YtnhmnfokbinplaaGreat
open Go Go.RowKit
set_option linter.unusedSimpArgs false
set_option linter.unusedVariables false

def vlenV (a : Val) : Val := if a.k = 2 then num (a.s.size : Int) else Val.zero
def evOp (col : Int → Val) (op n : Int) (v : Val) (l : List Val) : Val :=
  if op = 1 then col n else if op = 2 then clean v
  else if op = 3 then reckon 8 (num 0) ((l[0]?).getD Val.zero)
  else if op = 4 then vnot ((l[0]?).getD Val.zero)
  else if op = 5 then flag (decide (((l[0]?).getD Val.zero).k = 0))
  else if op = 6 then vlenV ((l[0]?).getD Val.zero)
  else if op = 7 ∨ op = 8 ∨ op = 9 ∨ op = 10 ∨ op = 11 then reckon op ((l[0]?).getD Val.zero) ((l[1]?).getD Val.zero)
  else if op = 18 then catV ((l[0]?).getD Val.zero) ((l[1]?).getD Val.zero)
  else if op = 19 ∨ op = 20 then both op ((l[0]?).getD Val.zero) ((l[1]?).getD Val.zero)
  else if op = 21 then (if trueV ((l[0]?).getD Val.zero) = true then (l[1]?).getD Val.zero else (l[2]?).getD Val.zero)
  else testV op ((l[0]?).getD Val.zero) ((l[1]?).getD Val.zero)
mutual
def evalE (col : Int → Val) : Ex → Val
  | .mk op n v ar => evOp col op n v (evalL col ar)
def evalL (col : Int → Val) : List Ex → List Val
  | [] => []
  | e :: r => evalE col e :: evalL col r
end
theorem evalL_eq (col : Int → Val) : ∀ l : List Ex, evalL col l = l.map (evalE col)
  | [] => rfl
  | e :: r => by simp [evalL, evalL_eq col r]

mutual
theorem walkE_sz : ∀ (e : Ex) (d n h n' h' : Int), walkE e d n h = (true, n', h') → n' = n + (e.sz : Int)
  | .mk op m v ar, d, n, h, n', h', he => by
    rw [walkE] at he
    split at he
    · cases he
    · have := walkL_sz ar _ _ _ _ _ he
      simp only [Ex.sz]; omega
theorem walkL_sz : ∀ (l : List Ex) (d n h n' h' : Int), walkL l d n h = (true, n', h') → n' = n + (szL l : Int)
  | [], d, n, h, n', h', he => by
    simp only [walkL, Prod.mk.injEq] at he
    simp only [szL]; omega
  | a :: r, d, n, h, n', h', he => by
    rw [walkL] at he
    split at he
    · rename_i n1 h2 hw
      have h3 := walkE_sz a d n h _ _ hw
      have h4 := walkL_sz r d n1 h2 _ _ he
      simp only [szL]; omega
    · cases he
end
theorem built_iff (e : Ex) : builtM e = (walkE e 1 0 0).1 := by
  unfold builtM sizeM
  cases hb : (walkE e 1 0 0).1 with
  | false => simp
  | true =>
    have := walkE_nodes e 1 0 0 _ _ _ (by omega) (by omega) (show walkE e 1 0 0 = (true, (walkE e 1 0 0).2.1, (walkE e 1 0 0).2.2) by rw [← hb])
    simp; exact (this.2.2 rfl).2
theorem built_sz {e : Ex} (h : builtM e = true) : (e.sz : Int) ≤ 400 := by
  rw [built_iff] at h
  have h1 := walkE_sz e 1 0 0 _ _ (show walkE e 1 0 0 = (true, (walkE e 1 0 0).2.1, (walkE e 1 0 0).2.2) by rw [← h])
  have h2 := walkE_nodes e 1 0 0 _ _ _ (by omega) (by omega) (show walkE e 1 0 0 = (true, (walkE e 1 0 0).2.1, (walkE e 1 0 0).2.2) by rw [← h])
  have := h2.2.2 rfl
  omega

mutual
theorem walkE_less : ∀ (e : Ex) (d n h d' n' h' : Int), d' ≤ d → n' ≤ n → (walkE e d n h).1 = true → (walkE e d' n' h').1 = true ∧ (walkE e d' n' h').2.1 ≤ (walkE e d n h).2.1
  | .mk op m v ar, d, n, h, d', n', h', hd, hn, hw => by
    rw [walkE] at hw
    rw [walkE, walkE]
    split at hw
    · cases hw
    · rename_i hc
      simp only [Bool.or_eq_true, decide_eq_true_eq, not_or] at hc
      have hc1 : ¬ (decide (400 < n + 1) || decide (40 < d) || badE op m v ar.length) = true := by simp [hc]
      have hc2 : ¬ (decide (400 < n' + 1) || decide (40 < d') || badE op m v ar.length) = true := by
        simp only [Bool.or_eq_true, decide_eq_true_eq, not_or]
        exact ⟨⟨by omega, by omega⟩, hc.2⟩
      rw [if_neg hc1, if_neg hc2]
      exact walkL_less ar _ _ _ _ _ _ (by omega) (by omega) hw
theorem walkL_less : ∀ (l : List Ex) (d n h d' n' h' : Int), d' ≤ d → n' ≤ n → (walkL l d n h).1 = true → (walkL l d' n' h').1 = true ∧ (walkL l d' n' h').2.1 ≤ (walkL l d n h).2.1
  | [], d, n, h, d', n', h', hd, hn, hw => by simp only [walkL, true_and]; exact hn
  | a :: r, d, n, h, d', n', h', hd, hn, hw => by
    rcases h1 : walkE a d n h with ⟨b1, n1, h2⟩
    cases b1 with
    | false => rw [walkL, h1] at hw; cases hw
    | true =>
      have h3 := walkE_less a d n h d' n' h' hd hn (by rw [h1])
      rcases h4 : walkE a d' n' h' with ⟨b2, n2, h5⟩
      rw [h4, h1] at h3
      obtain ⟨h6, h7⟩ := h3
      simp only at h6 h7
      subst h6
      rw [walkL, h1] at hw
      rw [walkL, walkL, h1, h4]
      exact walkL_less r d n1 h2 d' n2 h5 hd h7 hw
end
theorem walkL_mem : ∀ (l : List Ex) (d n h : Int) (a : Ex), a ∈ l → (walkL l d n h).1 = true → ∃ n' h', n ≤ n' ∧ (walkE a d n' h').1 = true
  | [], d, n, h, a, ha, _ => by simp at ha
  | b :: r, d, n, h, a, ha, hw => by
    rcases h1 : walkE b d n h with ⟨b1, n1, h2⟩
    cases b1 with
    | false => rw [walkL, h1] at hw; cases hw
    | true =>
      rcases List.mem_cons.1 ha with g | g
      · subst g; exact ⟨n, h, Int.le_refl _, by rw [h1]⟩
      · rw [walkL, h1] at hw
        obtain ⟨n', h', h3, h4⟩ := walkL_mem r d n1 h2 a g hw
        have := walkE_sz b d n h _ _ h1
        exact ⟨n', h', by omega, h4⟩
/-- What is built: its node is right, and its parts are built. -/
theorem built_mk {op m : Int} {v : Val} {ar : List Ex} (h : builtM (.mk op m v ar) = true) : badE op m v ar.length = false ∧ ∀ a, a ∈ ar → builtM a = true := by
  rw [built_iff, walkE] at h
  split at h
  · cases h
  · rename_i hc
    simp only [Bool.or_eq_true, decide_eq_true_eq, not_or] at hc
    refine ⟨by simpa using hc.2, fun a ha => ?_⟩
    obtain ⟨n', h', h1, h2⟩ := walkL_mem ar _ _ _ a ha h
    rw [built_iff]
    exact (walkE_less a _ n' h' 1 0 0 (by omega) (by omega) h2).1

mutual
def partsM : Ex → List Ex
  | .mk op n v ar => if builtM (.mk op n v ar) = true ∧ op = 19 then partsL ar else [mapE id (.mk op n v ar)]
def partsL : List Ex → List Ex
  | [] => []
  | e :: r => partsM e ++ partsL r
end
mutual
theorem parts_len : ∀ e : Ex, (partsM e).length ≤ e.sz ∧ 0 < (partsM e).length ∨ (partsM e).length ≤ e.sz
  | .mk op n v ar => by
    right
    rw [partsM]
    split
    · have := partsL_len ar; simp only [Ex.sz]; omega
    · simp [Ex.sz]
theorem partsL_len : ∀ l : List Ex, (partsL l).length ≤ szL l
  | [] => by simp [partsL]
  | e :: r => by
    have h1 : (partsM e).length ≤ e.sz := by rcases parts_len e with h | h; exact h.1; exact h
    have := partsL_len r
    simp only [partsL, szL, List.length_append]; omega
end

/-! ### a copy -/
def evalM (col : Int → Val) (e : Ex) : Val := if builtM e = true then evalE col e else Val.zero
/- All parts are true just where the whole is. -/
end Go.Proofs.YtnhmnfokbinplaaGreat

namespace Go.Proofs.YtnhmnfokbinplaaGreat
open Go Go.RowKit
set_option linter.unusedSimpArgs false
set_option linter.unusedVariables false

mutual
def nullM (cs : List Int) : Ex → Bool
  | .mk op n v ar => if op = 1 then cs.contains n else if op = 2 then decide ((clean v).k = 0) else if op = 5 ∨ op = 19 ∨ op = 20 ∨ op = 21 then false else nullL cs ar
def nullL (cs : List Int) : List Ex → Bool
  | [] => false
  | e :: r => nullM cs e || nullL cs r
end
theorem nullL_any (cs : List Int) : ∀ l : List Ex, nullL cs l = l.any (nullM cs)
  | [] => rfl
  | e :: r => by simp [nullL, nullL_any cs r]
mutual
def untrueM (cs : List Int) : Ex → Bool
  | .mk op n v ar => nullM cs (.mk op n v ar) || (if op = 2 then !trueV v else if op = 19 then ((untrueL cs ar)[0]?).getD false || ((untrueL cs ar)[1]?).getD false else if op = 20 then ((untrueL cs ar)[0]?).getD false && ((untrueL cs ar)[1]?).getD false else false)
def untrueL (cs : List Int) : List Ex → List Bool
  | [] => []
  | e :: r => untrueM cs e :: untrueL cs r
end
theorem untrueL_eq (cs : List Int) : ∀ l : List Ex, untrueL cs l = l.map (untrueM cs)
  | [] => rfl
  | e :: r => by simp [untrueL, untrueL_eq cs r]
def strictM (cs : List Int) (e : Ex) : Bool := builtM e && untrueM cs e

theorem arity_ops {op : Int} {n : Nat} (h : arityE op = (n : Int)) : 1 ≤ op ∧ op ≤ 21 := by
  unfold arityE at h
  split at h
  · omega
  · split at h
    · omega
    · split at h
      · omega
      · split at h <;> omega
theorem badE_arity {op n : Int} {v : Val} {k : Nat} (h : badE op n v k = false) : arityE op = (k : Int) := by
  simp only [badE, Bool.or_eq_false_iff, Bool.not_eq_false', decide_eq_true_eq] at h
  exact h.1.1

theorem true_clean (v : Val) : trueV (clean v) = trueV v := by
  unfold clean trueV
  by_cases h1 : v.k = 1
  · simp [h1]
  · by_cases h2 : v.k = 2 <;> simp [h1, h2, Val.zero]
end Go.Proofs.YtnhmnfokbinplaaGreat

namespace Go.Proofs.YtnhmnfokbinplaaGreat
open Go Go.RowKit
set_option maxRecDepth 100000
set_option linter.unusedSimpArgs false
set_option linter.unusedVariables false

set_option maxHeartbeats 4000000 in
theorem rarity_c (op : Int) : PCall Tryz.prog 58 [.int .i64 op] fun r => r = [.int .i64 (arityE op)] := by
  refine PCall.x (nt := 27) (res := [.tmp 2]) mixed tt_ok [] Tryz.func58 rfl rfl rfl c58 (Nat.le_of_ble_eq_true rfl) ?_
  intro cp cc lp Q' hcp hcc hlp hQ
  repeat' (first
    | (with_reducible refine Nm.mk ?_; intro z hz)
    | (with_reducible refine IfB.mk ?_ ?_ <;> (intro h; cases h))
    | (with_reducible refine Two.l ?_; refine Asm.mk ?_ ?_; focus (decide +kernel))
    | (with_reducible refine Two.r ?_)
    | (with_reducible refine Asm.mk ?_ ?_; focus (first | kernel_rfl | decide))
    | (with_reducible refine Asm.mk2 ?_ ?_)
    | ((fail_if_success (with_reducible first | refine hQ _ ?_ | refine Side.mk ?_ | refine isCP hcp ?_ | refine isCC hcc ?_ | refine isLP hlp ?_ | refine Ix.mk ?_ | refine SIx.mk ?_ | refine SEx.mk ?_ | refine EIx.mk ?_ | refine RIx.mk ?_ | show False | refine hR ?_ _ ?_ ?_ ?_ ?_ ?_ | refine hR2 ?_ _ ?_ ?_ ?_ ?_ ?_)); cbv))
  all_goals (refine hQ _ ?_; clear hQ hcp hcc hlp; simp only [decide_eq_true_eq, decide_eq_false_iff_not] at *; congr 2; unfold arityE; (repeat' split) <;> first | omega | (intros; omega))
end Go.Proofs.YtnhmnfokbinplaaGreat

namespace Go.Proofs.YtnhmnfokbinplaaGreat
open Go Go.RowKit
set_option maxRecDepth 100000
set_option linter.unusedSimpArgs false
set_option linter.unusedVariables false

def goodK (op m : Int) (v : Val) (len : Nat) : Bool := decide (arityE op = (len : Int)) && !(decide (op = 1) && decide (m < 0)) && !(decide (op = 2) && decide ((1000 : Int) < ((clean v).s.size : Int)))
theorem goodE_bad (op m : Int) (v : Val) (len : Nat) : goodK op m v len = !badE op m v len := by
  have hc : decide ((1000 : Int) < ((clean v).s.size : Int)) = (decide (v.k = 2) && decide ((1000 : Int) < (v.s.size : Int))) := by
    unfold clean
    by_cases h1 : v.k = 1
    · rw [if_pos h1, h1]
      rfl
    · rw [if_neg h1]
      by_cases h2 : v.k = 2
      · rw [if_pos h2, h2]; rfl
      · rw [if_neg h2, decide_eq_false h2]; rfl
  unfold goodK badE
  rw [hc]
  cases decide (arityE op = (len : Int)) <;> cases decide (op = 1) <;> cases decide (m < 0) <;> cases decide (op = 2) <;> cases decide (v.k = 2) <;> cases decide ((1000 : Int) < (v.s.size : Int)) <;> rfl
mutual
def measE : Ex → Int → Int → Int × Int × Bool
  | .mk op m v ar, n, d => if (decide (400 < n) || decide (40 < d)) = true then (n + 1, d, false) else measL (goodK op m v ar.length) ar (n + 1) d d
def measL : Bool → List Ex → Int → Int → Int → Int × Int × Bool
  | g, [], n, d, h => (n, h, g)
  | g, a :: r, n, d, h => match measE a n (d + 1) with
    | (n', h', true) => measL g r n' d (mx h h')
    | (n', h', false) => (n', mx h h', false)
end
theorem mx_assoc (a b c : Int) : mx (mx a b) c = mx a (mx b c) := by unfold mx; (repeat' split) <;> omega
theorem mx_l (a b : Int) : a ≤ mx a b := by unfold mx; split <;> omega
theorem mx_le {a b c : Int} (h : a ≤ c) (h' : b ≤ c) : mx a b ≤ c := by unfold mx; split <;> omega
mutual
theorem measE_up : ∀ (e : Ex) (n d : Int), n < (measE e n d).1 ∧ d ≤ (measE e n d).2.1
  | .mk op m v ar, n, d => by
    rw [measE]
    split
    · exact ⟨by show n < n + 1; omega, Int.le_refl _⟩
    · have := measL_up (goodK op m v ar.length) ar (n + 1) d d
      exact ⟨by omega, this.2.1⟩
theorem measL_up : ∀ (g : Bool) (l : List Ex) (n d h : Int), n ≤ (measL g l n d h).1 ∧ h ≤ (measL g l n d h).2.1 ∧ ((measL g l n d h).2.2 = true → g = true)
  | g, [], n, d, h => ⟨Int.le_refl _, Int.le_refl _, fun h => h⟩
  | g, a :: r, n, d, h => by
    have h1 := measE_up a n (d + 1)
    rw [measL]
    split
    · rename_i n' h' he
      rw [he] at h1
      have h2 := measL_up g r n' d (mx h h')
      have h3 := mx_l h h'
      exact ⟨by have : n < n' := h1.1; omega, by omega, h2.2.2⟩
    · rename_i n' h' he
      rw [he] at h1
      exact ⟨by have : n < n' := h1.1; show n ≤ n'; omega, mx_l h h', fun h => by cases h⟩
end
mutual
theorem meas_walk : ∀ (e : Ex) (n d H : Int), ((walkE e d n H).1 = true → (measE e n d).2.2 = true ∧ (measE e n d).1 ≤ 400 ∧ (measE e n d).2.1 ≤ 40 ∧ (walkE e d n H).2.1 = (measE e n d).1 ∧ (walkE e d n H).2.2 = mx H (measE e n d).2.1) ∧
    ((measE e n d).2.2 = true → (measE e n d).1 ≤ 400 → (walkE e d n H).1 = true)
  | .mk op m v ar, n, d, H => by
    have hu := measL_up (goodK op m v ar.length) ar (n + 1) d d
    rw [walkE, measE]
    by_cases h1 : (decide (400 < n) || decide (40 < d)) = true
    · rw [if_pos h1, if_pos (by simp only [Bool.or_eq_true, decide_eq_true_eq] at h1 ⊢; omega)]
      exact ⟨fun h => (by cases h), fun h => (by cases h)⟩
    · rw [if_neg h1]
      simp only [Bool.or_eq_true, decide_eq_true_eq, not_or] at h1
      cases hb : badE op m v ar.length with
      | true =>
        rw [if_pos (by simp)]
        refine ⟨fun h => (by cases h), fun h _ => ?_⟩
        have := hu.2.2 h
        rw [goodE_bad, hb] at this
        cases this
      | false =>
        rw [goodE_bad, hb] at hu ⊢
        by_cases h4 : 400 < n + 1
        · rw [if_pos (by simp [h4])]
          exact ⟨fun h => (by cases h), fun _ h => absurd h (by have := hu.1; omega)⟩
        · rw [if_neg (by simp; omega)]
          exact meas_walkL ar (n + 1) d d H (by omega) (by omega)
theorem meas_walkL : ∀ (l : List Ex) (n d h H : Int), n ≤ 400 → h ≤ 40 → ((walkL l (d + 1) n (mx H h)).1 = true → (measL (!false) l n d h).2.2 = true ∧ (measL (!false) l n d h).1 ≤ 400 ∧ (measL (!false) l n d h).2.1 ≤ 40 ∧ (walkL l (d + 1) n (mx H h)).2.1 = (measL (!false) l n d h).1 ∧ (walkL l (d + 1) n (mx H h)).2.2 = mx H (measL (!false) l n d h).2.1) ∧
    ((measL (!false) l n d h).2.2 = true → (measL (!false) l n d h).1 ≤ 400 → (walkL l (d + 1) n (mx H h)).1 = true)
  | [], n, d, h, H, hn, hh => by
    rw [walkL, measL]
    exact ⟨fun _ => ⟨rfl, hn, hh, rfl, rfl⟩, fun _ _ => rfl⟩
  | a :: r, n, d, h, H, hn, hh => by
    have he := meas_walk a n (d + 1) (mx H h)
    have hup := fun n' h' => measL_up (!false) r n' d h'
    rw [walkL, measL]
    rcases hm : measE a n (d + 1) with ⟨n1, h1, ok1⟩
    rcases hw : walkE a (d + 1) n (mx H h) with ⟨b1, nw, hw1⟩
    rw [hm, hw] at he
    dsimp only at he
    cases b1 with
    | true =>
      obtain ⟨e1, e2, e3, e4, e5⟩ := he.1 rfl
      subst e1
      dsimp only
      rw [e4, e5, mx_assoc]
      exact meas_walkL r n1 d (mx h h1) H e2 (mx_le hh e3)
    | false =>
      dsimp only
      refine ⟨fun h => (by cases h), fun h1' h2' => ?_⟩
      cases ok1 with
      | false => cases h1'
      | true =>
        dsimp only at h1' h2'
        have := hup n1 (mx h h1)
        have h5 : n1 ≤ 400 := by omega
        exact absurd (he.2 rfl h5) (by decide)
end
def rsizeM (e : Ex) : Int × Int := if (!(measE e 0 1).2.2 || decide (400 < (measE e 0 1).1) || decide (40 < (measE e 0 1).2.1)) = true then (401, 41) else ((measE e 0 1).1, (measE e 0 1).2.1)
theorem rsizeM_eq (e : Ex) : rsizeM e = sizeM e := by
  have h := meas_walk e 0 1 0
  have hu := measE_up e 0 1
  rw [rsizeM, sizeM]
  cases hb : (walkE e 1 0 0).1 with
  | true =>
    obtain ⟨h1, h2, h3, h4, h5⟩ := h.1 hb
    rw [if_neg (by simp [h1]; omega), if_pos rfl, h4, h5]
    have : mx 0 (measE e 0 1).2.1 = (measE e 0 1).2.1 := by unfold mx; split <;> omega
    rw [this]
  | false =>
    have hc : (!(measE e 0 1).2.2 || decide (400 < (measE e 0 1).1) || decide (40 < (measE e 0 1).2.1)) = true := by
      cases h1 : (measE e 0 1).2.2 with
      | false => rfl
      | true =>
        by_cases h2 : (measE e 0 1).1 ≤ 400
        · rw [h.2 h1 h2] at hb; cases hb
        · have : decide (400 < (measE e 0 1).1) = true := by simp only [decide_eq_true_eq]; omega
          rw [this]; rfl
    rw [if_pos hc]; rfl
end Go.Proofs.YtnhmnfokbinplaaGreat

namespace Go.Proofs.YtnhmnfokbinplaaGreat
open Go Go.RowKit
set_option maxRecDepth 100000
set_option linter.unusedSimpArgs false
set_option linter.unusedVariables false

mutual
theorem measE_ok : ∀ (e : Ex) (n d : Int), (measE e n d).2.2 = true → (measE e n d).1 ≤ 401
  | .mk op m v ar, n, d, h => by
    rw [measE] at h ⊢
    split at h
    · cases h
    · rename_i hc
      rw [if_neg hc]
      simp only [Bool.or_eq_true, decide_eq_true_eq, not_or] at hc
      exact measL_ok _ ar (n + 1) d d (by omega) h
theorem measL_ok : ∀ (g : Bool) (l : List Ex) (n d h : Int), n ≤ 401 → (measL g l n d h).2.2 = true → (measL g l n d h).1 ≤ 401
  | g, [], n, d, h, hn, _ => hn
  | g, a :: r, n, d, h, hn, hk => by
    have he := measE_ok a n (d + 1)
    rw [measL] at hk ⊢
    rcases hm : measE a n (d + 1) with ⟨n1, h1, ok1⟩
    rw [hm] at hk he
    cases ok1 with
    | true => exact measL_ok g r n1 d (mx h h1) (he rfl) hk
    | false => cases hk
end
def MeasC (e : Ex) : Prop := ∀ (cells : List PV) (n d : Int), e.cells = cells → 0 ≤ n → n ≤ 401 → 0 ≤ d → d ≤ 41 → ∃ n' h' k, measE e n d = (n', h', k) ∧ PCall Tryz.prog 24 [.agg cells, .int .i64 n, .int .i64 d] fun r => r = [.int .i64 n', .int .i64 h', .bool k]

set_option maxHeartbeats 4000000 in
theorem meas_c (op m vk vn : Int) (vs : ByteArray) (ar : List Ex) (es : List (List PV)) (hes : ar.map Ex.cells = es) (hal : ar.length ≤ 140737488355328) (IH : ∀ x, x ∈ ar → MeasC x) (n d n' h' : Int) (k : Bool) (hn0 : 0 ≤ n) (hn1 : n ≤ 401) (hd0 : 0 ≤ d) (hd1 : d ≤ 41) (hq : measE (.mk op m ⟨vk, vn, vs⟩ ar) n d = (n', h', k)) :
    PCall Tryz.prog 24 [.agg [.int .i64 op, .int .i64 m, .int .i64 vk, .int .i64 vn, .str vs, .sl es], .int .i64 n, .int .i64 d] fun r => r = [.int .i64 n', .int .i64 h', .bool k] := by
  have hel : es.length = ar.length := by rw [← hes]; simp
  rw [measE] at hq
  have hw1 : IntKind.i64.wrap (n + 1) = n + 1 := wrap_in (by omega)
  have hwd : IntKind.i64.wrap (d + 1) = d + 1 := wrap_in (by omega)
  refine PCall.x (nt := 88) (res := [.tmp 6, .tmp 7, .tmp 8]) mixed tt_ok [] Tryz.func24 rfl rfl rfl c24 (Nat.le_of_ble_eq_true rfl) ?_
  intro cp cc lp Q' hcp hcc hlp hQ
  repeat' (first
    | (with_reducible refine Nm.mk ?_; intro z hz)
    | (with_reducible refine IfB.mk ?_ ?_ <;> (intro h; cases h))
    | (with_reducible refine Two.l ?_; refine Asm.mk ?_ ?_; focus (decide +kernel))
    | (with_reducible refine Two.r ?_)
    | (with_reducible refine Asm.mk ?_ ?_; focus (first | kernel_rfl | decide))
    | (with_reducible refine isCP hcp ?_; first | (refine iP hcp (rarity_c op) ?_; intro z hz) | (refine vP hcp (rclean_c vk vn vs) ?_; intro v hv))
    | (with_reducible refine isCC hcc ?_; first | (refine iA hcc (rarity_c op) rfl ?_; intro z hz) | (refine vA hcc (rclean_c vk vn vs) rfl ?_; intro v hv))
    | (with_reducible refine Asm.mk2 ?_ ?_)
    | ((fail_if_success (with_reducible first | refine hQ _ ?_ | refine Side.mk ?_ | refine isCP hcp ?_ | refine isCC hcc ?_ | refine isLP hlp ?_ | refine Ix.mk ?_ | refine SIx.mk ?_ | refine SEx.mk ?_ | refine EIx.mk ?_ | refine RIx.mk ?_ | show False | refine hR ?_ _ ?_ ?_ ?_ ?_ ?_ | refine hR2 ?_ _ ?_ ?_ ?_ ?_ ?_)); cbv))
  all_goals first
    | (refine hQ _ ?_
       rw [hw1] at hz
       rw [if_pos (by simp_all), Prod.mk.injEq, Prod.mk.injEq] at hq
       obtain ⟨q1, q2, q3⟩ := hq
       rw [← hz, q1, q2, q3])
    | skip
  all_goals
    (rw [if_neg (by simp_all)] at hq
     have hd40 : d ≤ 40 := by
       have : decide (40 < d) = false := by assumption
       simp only [decide_eq_false_iff_not] at this
       omega
     have hn400 : n ≤ 400 := by
       have : decide (400 < n) = false := by assumption
       simp only [decide_eq_false_iff_not] at this
       omega
     simp only [nc] at hz
     simp only [nc'] at hz
     have hzl : z.toNat = ar.length ∧ 0 ≤ z := by omega
     obtain ⟨hzl, hzl0⟩ := hzl
     clear hz
     generalize z = zl at *
     refine loopT (ι := Int × Int × Int × Bool) mixed tt_ok hcp hcc hlp [2, 3, 61, 62] (fun p => [(1, .p (.int .i64 p.2.1)), (10, .p (.int .i64 p.2.2.1)), (63, .p (.int .i64 p.1)), (9, .p (.bool p.2.2.2))]) (fun _ => [.cells [.p (.int .i64 op), .p (.int .i64 m), .p (.int .i64 vk), .p (.int .i64 vn), .p (.str vs), .p (.sl es)]])
       (fun p => (0 ≤ p.1 ∧ p.1 ≤ zl) ∧ (0 ≤ p.2.1 ∧ p.2.1 ≤ 401) ∧ measL p.2.2.2 (ar.drop p.1.toNat) p.2.1 d p.2.2.1 = (n', h', k)) (fun p => (zl - p.1).toNat) (0, _, d, _) 1 (fun _ => rfl) ?_ ⟨rfl, rfl, rfl, rfl, trivial⟩ rfl ?_
     · rw [hw1] at hz
       refine ⟨⟨by show (0 : Int) ≤ 0; omega, by show (0 : Int) ≤ zl; omega⟩, ⟨?_, ?_⟩, Eq.trans ?_ hq⟩
       · rw [← hz]; show 0 ≤ n + 1; omega
       · rw [← hz]; show n + 1 ≤ 401; omega
       · show measL _ ar _ d d = measL _ ar (n + 1) d d
         rw [← hz]
         congr 1
         clear IH hq hQ hcp hcc hlp hd40 hn400 hn0 hn1 hd0 hd1 hwd hw1 hz
         symm
         simp only [goodK, ← hel]
         simp_all
     · rintro R ⟨i, n1, h1, g⟩ ⟨⟨hi0, hi1⟩, ⟨hb0, hb1⟩, hw⟩ hR
       replace hi0 : 0 ≤ i := hi0
       replace hi1 : i ≤ zl := hi1
       replace hb0 : 0 ≤ n1 := hb0
       replace hb1 : n1 ≤ 401 := hb1
       replace hw : measL g (ar.drop i.toNat) n1 d h1 = (n', h', k) := hw
       have hk : decide (i < zl) = true → i < ar.length := by simp only [decide_eq_true_eq]; omega
       have hki : decide (i < zl) = true → i + 1 ≤ zl ∧ i < 9223372036854775806 := by simp only [decide_eq_true_eq]; omega
       have hpc : ∀ (op' m' vk' vn' : Int) (vs' : ByteArray) (ar' : List Ex) (es' : List (List PV)), ar[i.toNat]? = some (.mk op' m' ⟨vk', vn', vs'⟩ ar') → ar'.map Ex.cells = es' → ∀ w, IntKind.i64.wrap (d + 1) = w → ∃ n2 h2 k2, measE (.mk op' m' ⟨vk', vn', vs'⟩ ar') n1 (d + 1) = (n2, h2, k2) ∧
           PCall Tryz.prog 24 [.agg [.int .i64 op', .int .i64 m', .int .i64 vk', .int .i64 vn', .str vs', .sl es'], .int .i64 n1, .int .i64 w] fun r => r = [.int .i64 n2, .int .i64 h2, .bool k2] := by
         intro op' m' vk' vn' vs' ar' es' hx he w hwe
         rw [hwd] at hwe
         subst hwe
         exact IH _ (List.mem_of_getElem? hx) _ n1 (d + 1) (by rw [cells_mk, he]) hb0 hb1 (by omega) (by omega)
       have hdr : ∀ x, ar[i.toNat]? = some x → ar.drop i.toNat = x :: ar.drop (i + 1).toNat := by
         intro x hx
         rw [List.drop_eq_getElem_cons (List.getElem?_eq_some_iff.1 hx).1, (List.getElem?_eq_some_iff.1 hx).2, show (i + 1).toNat = i.toNat + 1 by omega]
       repeat' (first
         | (with_reducible refine Nm.mk ?_; intro z hz)
         | (with_reducible refine IfB.mk ?_ ?_ <;> (intro h; cases h))
         | (with_reducible refine Two.l ?_; refine Asm.mk ?_ ?_; focus (decide +kernel))
         | (with_reducible refine Two.r ?_)
         | (with_reducible refine Asm.mk ?_ ?_; focus (show (_ : Bool) = true; kernel_rfl))
         | (with_reducible refine Ix.ex hes hi0 (hk (by assumption)) ?_; intro op' m' vk' vn' vs' ar' es' hx hes')
         | (with_reducible refine isCC hcc ?_; obtain ⟨n2, h2, k2, hm2, hcall⟩ := hpc _ _ _ _ _ _ _ hx hes' _ (by assumption); refine xA hcc hcall rfl ?_)
         | (with_reducible refine Asm.mk2 ?_ ?_)
         | ((fail_if_success (with_reducible first | refine hQ _ ?_ | refine Side.mk ?_ | refine isCP hcp ?_ | refine isCC hcc ?_ | refine isLP hlp ?_ | refine Ix.mk ?_ | refine SIx.mk ?_ | refine SEx.mk ?_ | refine EIx.mk ?_ | refine RIx.mk ?_ | show False | refine hR ?_ _ ?_ ?_ ?_ ?_ ?_ | refine hR2 ?_ _ ?_ ?_ ?_ ?_ ?_)); cbv))
       all_goals first
         | (have hk2 : k2 = false := by simpa using (show (!k2) = true from hz)
            refine hQ _ ?_
            rename_i zm hzm
            rw [hdr _ hx, measL, hm2, hk2] at hw
            simp only [Prod.mk.injEq] at hw
            obtain ⟨q1, q2, q3⟩ := hw
            rw [q1, ← hzm, ← q3, ← q2]
            rfl)
         | (refine hQ _ ?_
            have hge : ar.length ≤ i.toNat := by
              have : decide (i < zl) = false := by assumption
              simp only [decide_eq_false_iff_not] at this
              omega
            rw [List.drop_eq_nil_of_le hge, measL] at hw
            simp only [Prod.mk.injEq] at hw
            obtain ⟨q1, q2, q3⟩ := hw
            rw [q1, q2, q3])
         | (have hk2 : k2 = true := by simpa using (show (!k2) = false by assumption)
            have hlt := hki (by assumption)
            rename_i zm hzm _
            rw [hdr _ hx, measL, hm2, hk2] at hw
            have hm3 := measE_ok (.mk op' m' ⟨vk', vn', vs'⟩ ar') n1 (d + 1)
            have hm4 := measE_up (.mk op' m' ⟨vk', vn', vs'⟩ ar') n1 (d + 1)
            rw [hm2] at hm3 hm4
            have hm3' : n2 ≤ 401 := hm3 hk2
            have hm4' : n1 < n2 := hm4.1
            have hwi : IntKind.i64.wrap (i + 1) = i + 1 := wrap_in (by omega)
            rw [hwi] at hz
            refine hR (i + 1, n2, zm, g) _ ⟨⟨by show 0 ≤ i + 1; omega, by show i + 1 ≤ zl; omega⟩, ⟨by show 0 ≤ n2; omega, hm3'⟩, ?_⟩ (by show (zl - (i + 1)).toNat < (zl - i).toNat; omega) ⟨rfl, rfl, hz ▸ rfl, rfl, trivial⟩ ⟨rfl, rfl, rfl, rfl, trivial⟩ rfl
            show measL g (ar.drop (i + 1).toNat) n2 d zm = (n', h', k)
            rw [← hw, ← hzm]
            rfl))
theorem meas_all : ∀ (m : Nat) (e : Ex), e.sz ≤ m → e.wide → MeasC e
  | 0, .mk op m v ar, h, _ => by simp [Ex.sz] at h
  | k + 1, .mk op m ⟨vk, vn, vs⟩ ar, h, hw => by
    intro cells n d he hn0 hn1 hd0 hd1
    rw [cells_mk] at he
    subst he
    have hwi : wideN ar.length ∧ wideL ar := by rw [Ex.wide] at hw; exact hw
    have hwn : wideN ar.length := hwi.1
    unfold wideN at hwn
    refine ⟨_, _, _, rfl, meas_c op m vk vn vs ar _ rfl (by omega) (fun x hx => meas_all k x ?_ (wide_mem hwi.2 hx)) n d _ _ _ hn0 hn1 hd0 hd1 rfl⟩
    have := sz_mem hx
    simp only [Ex.sz] at h; omega
theorem rsize_c (op n vk vn : Int) (vs : ByteArray) (ar : List Ex) (es : List (List PV)) (hes : ar.map Ex.cells = es) (hw : (Ex.mk op n ⟨vk, vn, vs⟩ ar).wide) :
    PCall Tryz.prog 5 [.agg [.int .i64 op, .int .i64 n, .int .i64 vk, .int .i64 vn, .str vs, .sl es]] fun r => r = [.int .i64 (sizeM (.mk op n ⟨vk, vn, vs⟩ ar)).1, .int .i64 (sizeM (.mk op n ⟨vk, vn, vs⟩ ar)).2] := by
  obtain ⟨n', h', k, hm, hcall⟩ := meas_all _ (.mk op n ⟨vk, vn, vs⟩ ar) (Nat.le_refl _) hw _ 0 1 (by rw [cells_mk]) (by decide) (by decide) (by decide) (by decide)
  rw [← rsizeM_eq, rsizeM, hm]
  rw [hes] at hcall
  refine PCall.x (nt := 25) (res := [.tmp 2, .tmp 3]) mixed tt_ok [] Tryz.func5 rfl rfl rfl c5 (Nat.le_of_ble_eq_true rfl) ?_
  intro cp cc lp Q' hcp hcc hlp hQ
  repeat' (first
    | (with_reducible refine Nm.mk ?_; intro z hz)
    | (with_reducible refine IfB.mk ?_ ?_ <;> (intro h; cases h))
    | (with_reducible refine Two.l ?_; refine Asm.mk ?_ ?_; focus (decide +kernel))
    | (with_reducible refine Two.r ?_)
    | (with_reducible refine Asm.mk ?_ ?_; focus (first | kernel_rfl | decide))
    | (with_reducible refine isCP hcp ?_; first | (refine xP hcp (hcall) ?_; skip))
    | (with_reducible refine isCC hcc ?_; first | (refine xA hcc (hcall) rfl ?_; skip))
    | (with_reducible refine Asm.mk2 ?_ ?_)
    | ((fail_if_success (with_reducible first | refine hQ _ ?_ | refine Side.mk ?_ | refine isCP hcp ?_ | refine isCC hcc ?_ | refine isLP hlp ?_ | refine Ix.mk ?_ | refine SIx.mk ?_ | refine SEx.mk ?_ | refine EIx.mk ?_ | refine RIx.mk ?_ | show False | refine hR ?_ _ ?_ ?_ ?_ ?_ ?_ | refine hR2 ?_ _ ?_ ?_ ?_ ?_ ?_)); cbv))
  all_goals (refine hQ _ ?_; clear hQ hcp hcc hlp; simp_all)
  all_goals (rw [if_neg (by omega)]; exact ⟨rfl, rfl⟩)
theorem rbuilt_c (op n vk vn : Int) (vs : ByteArray) (ar : List Ex) (es : List (List PV)) (hes : ar.map Ex.cells = es) (hw : (Ex.mk op n ⟨vk, vn, vs⟩ ar).wide) :
    PCall Tryz.prog 31 [.agg [.int .i64 op, .int .i64 n, .int .i64 vk, .int .i64 vn, .str vs, .sl es]] fun r => r = [.bool (builtM (.mk op n ⟨vk, vn, vs⟩ ar))] := by
  have h := rsize_c op n vk vn vs ar es hes hw
  rw [builtM]
  generalize sizeM (.mk op n ⟨vk, vn, vs⟩ ar) = p at *
  obtain ⟨a, b⟩ := p
  refine PCall.x (nt := 12) (res := [.tmp 2]) mixed tt_ok [] Tryz.func31 rfl rfl rfl c31 (Nat.le_of_ble_eq_true rfl) ?_
  intro cp cc lp Q' hcp hcc hlp hQ
  repeat' (first
    | (with_reducible refine Nm.mk ?_; intro z hz)
    | (with_reducible refine IfB.mk ?_ ?_ <;> (intro h; cases h))
    | (with_reducible refine Two.l ?_; refine Asm.mk ?_ ?_; focus (decide +kernel))
    | (with_reducible refine Two.r ?_)
    | (with_reducible refine Asm.mk ?_ ?_; focus (first | kernel_rfl | decide))
    | (with_reducible refine isCP hcp ?_; first | (refine xP hcp (h) ?_; skip))
    | (with_reducible refine isCC hcc ?_; first | (refine xA hcc (h) rfl ?_; skip))
    | (with_reducible refine Asm.mk2 ?_ ?_)
    | ((fail_if_success (with_reducible first | refine hQ _ ?_ | refine Side.mk ?_ | refine isCP hcp ?_ | refine isCC hcc ?_ | refine isLP hlp ?_ | refine Ix.mk ?_ | refine SIx.mk ?_ | refine SEx.mk ?_ | refine EIx.mk ?_ | refine RIx.mk ?_ | show False | refine hR ?_ _ ?_ ?_ ?_ ?_ ?_ | refine hR2 ?_ _ ?_ ?_ ?_ ?_ ?_)); cbv))
  all_goals (refine hQ _ ?_; clear hQ hcp hcc hlp; simp_all)
end Go.Proofs.YtnhmnfokbinplaaGreat

namespace Go.Proofs.YtnhmnfokbinplaaGreat
open Go Go.RowKit
set_option maxRecDepth 100000
set_option linter.unusedSimpArgs false
set_option linter.unusedVariables false

def fitK (w : Int) (l : List Int) : Bool := l.all fun k => decide (k = w) || decide (k = 0)
def pairK (a b : Int) : Bool := decide (a = b) || decide (a = 0) || decide (b = 0)
theorem Ix.giveK {es : Nat} {l : List (List PV)} {n : Int} {K : List PV → Prop} {e : List PV} (h0 : 0 ≤ n) (h : l[n.toNat]? = some e) (he : e.length = es) (hes : es ≠ 0) (k : K e) : Ix es l n K := ⟨⟨e, h0, h, he, hes, k⟩⟩
theorem pair_c (a b : Int) : PCall Tryz.prog 61 [.int .i64 a, .int .i64 b] fun r => r = [.int .i64 (mx a b), .bool (pairK a b)] := by
  refine PCall.x (nt := 20) (res := [.tmp 4, .tmp 5]) mixed tt_ok [] Tryz.func61 rfl rfl rfl c61 (Nat.le_of_ble_eq_true rfl) ?_
  intro cp cc lp Q' hcp hcc hlp hQ
  repeat' (first
    | (with_reducible refine Nm.mk ?_; intro z hz)
    | (with_reducible refine IfB.mk ?_ ?_ <;> (intro h; cases h))
    | (with_reducible refine Two.l ?_; refine Asm.mk ?_ ?_; focus (decide +kernel))
    | (with_reducible refine Two.r ?_)
    | (with_reducible refine Asm.mk ?_ ?_; focus (first | kernel_rfl | decide))
    | (with_reducible refine Asm.mk2 ?_ ?_)
    | ((fail_if_success (with_reducible first | refine hQ _ ?_ | refine Side.mk ?_ | refine isCP hcp ?_ | refine isCC hcc ?_ | refine isLP hlp ?_ | refine Ix.mk ?_ | refine SIx.mk ?_ | refine SEx.mk ?_ | refine EIx.mk ?_ | refine RIx.mk ?_ | show False | refine hR ?_ _ ?_ ?_ ?_ ?_ ?_ | refine hR2 ?_ _ ?_ ?_ ?_ ?_ ?_)); cbv))
  all_goals (refine hQ _ ?_; clear hQ hcp hcc hlp; simp_all [mx, pairK])
theorem kfit_c (w : Int) (l : List Int) (C : List (List PV)) (hC : l.map i64c = C) : PCall Tryz.prog 60 [.int .i64 w, .sl C] fun r => r = [.bool (fitK w l)] := by
  refine PCall.know c60 fun hkn => ?_
  have k1 : C.length ≤ maxLen := hkn (.sl C) (by simp)
  clear hkn
  rw [maxLen_eq] at k1
  have b1 : C.length = l.length := by rw [← hC]; simp
  obtain ⟨q, hq⟩ : ∃ q, fitK w l = q := ⟨_, rfl⟩
  rw [hq]
  refine PCall.x (nt := 21) (res := [.tmp 4]) mixed tt_ok [] Tryz.func60 rfl rfl rfl c60 (Nat.le_of_ble_eq_true rfl) ?_
  intro cp cc lp Q' hcp hcc hlp hQ
  repeat' (first
    | (with_reducible refine Nm.mk ?_; intro z hz)
    | (with_reducible refine IfB.mk ?_ ?_ <;> (intro h; cases h))
    | (with_reducible refine Two.l ?_; refine Asm.mk ?_ ?_; focus (decide +kernel))
    | (with_reducible refine Two.r ?_)
    | (with_reducible refine Asm.mk ?_ ?_; focus (first | kernel_rfl | decide))
    | (with_reducible refine Asm.mk2 ?_ ?_)
    | ((fail_if_success (with_reducible first | refine hQ _ ?_ | refine Side.mk ?_ | refine isCP hcp ?_ | refine isCC hcc ?_ | refine isLP hlp ?_ | refine Ix.mk ?_ | refine SIx.mk ?_ | refine SEx.mk ?_ | refine EIx.mk ?_ | refine RIx.mk ?_ | show False | refine hR ?_ _ ?_ ?_ ?_ ?_ ?_ | refine hR2 ?_ _ ?_ ?_ ?_ ?_ ?_)); cbv))
  simp only [nc] at hz
  simp only [nc'] at hz
  have hzl : z.toNat = l.length ∧ 0 ≤ z ∧ z ≤ 9223372036854775807 := by omega
  obtain ⟨hzl, hzl0, hzl1⟩ := hzl
  clear hz
  generalize z = zl at *
  refine loopK (ι := Int) mixed tt_ok hcp hcc hlp [0, 7, 8] (fun i => [(9, .p (.int .i64 i))]) (fun i => (0 ≤ i ∧ i ≤ zl) ∧ fitK w (l.drop i.toNat) = q) (fun i => (zl - i).toNat) 0 (fun _ => rfl) ⟨⟨by omega, by omega⟩, hq⟩ ⟨rfl, trivial⟩ ?_
  rintro R i ⟨⟨hi0, hi1⟩, hf⟩ hR
  have hk : decide (i < zl) = true → i < l.length := by simp only [decide_eq_true_eq]; omega
  have hki : decide (i < zl) = true → IntKind.i64.wrap (i + 1) = i + 1 ∧ i + 1 ≤ zl := by simp only [decide_eq_true_eq]; intro h; exact ⟨wrap_in (by omega), by omega⟩
  have hdr : ∀ x, l[i.toNat]? = some x → l.drop i.toNat = x :: l.drop (i + 1).toNat := by
    intro x hx
    rw [List.drop_eq_getElem_cons (List.getElem?_eq_some_iff.1 hx).1, (List.getElem?_eq_some_iff.1 hx).2, show (i + 1).toNat = i.toNat + 1 by omega]
  have hcons : ∀ x, l[i.toNat]? = some x → (decide (x = w) || decide (x = 0)) = true → fitK w (l.drop (i + 1).toNat) = q := by
    intro x hx h
    rw [← hf, hdr x hx, fitK, fitK, List.all_cons, h, Bool.true_and]
  have hcons0 : ∀ x, l[i.toNat]? = some x → (decide (x = w) || decide (x = 0)) = false → q = false := by
    intro x hx h
    rw [← hf, hdr x hx, fitK, List.all_cons, h, Bool.false_and]
  have c1 : ∀ {x : Int}, (!decide (x = 0)) = false → (decide (x = w) || decide (x = 0)) = true := by intro x h; cases h2 : decide (x = 0) <;> simp_all
  have c2 : ∀ {x : Int}, (!decide (x = w)) = false → (decide (x = w) || decide (x = 0)) = true := by intro x h; cases h2 : decide (x = w) <;> simp_all
  have c3 : ∀ {x : Int}, (!decide (x = w)) = true → (!decide (x = 0)) = true → (decide (x = w) || decide (x = 0)) = false := by intro x h h'; cases h2 : decide (x = w) <;> cases h3 : decide (x = 0) <;> simp_all
  repeat' (first
    | (with_reducible refine Nm.mk ?_; intro z hz)
    | (with_reducible refine IfB.mk ?_ ?_ <;> (intro h; cases h))
    | (with_reducible refine Two.l ?_; refine Asm.mk ?_ ?_; focus (decide +kernel))
    | (with_reducible refine Two.r ?_)
    | (with_reducible refine Asm.mk ?_ ?_; focus (show (_ : Bool) = true; kernel_rfl))
    | (with_reducible refine Ix.map hC i64c_len (by decide) hi0 (hk (by assumption)) ?_; intro x hx)
    | (with_reducible refine Asm.mk2 ?_ ?_)
    | ((fail_if_success (with_reducible first | refine hQ _ ?_ | refine Side.mk ?_ | refine isCP hcp ?_ | refine isCC hcc ?_ | refine isLP hlp ?_ | refine Ix.mk ?_ | refine SIx.mk ?_ | refine SEx.mk ?_ | refine EIx.mk ?_ | refine RIx.mk ?_ | show False | refine hR ?_ _ ?_ ?_ ?_ ?_ ?_ | refine hR2 ?_ _ ?_ ?_ ?_ ?_ ?_)); cbv))
  all_goals first
    | (refine hQ _ ?_
       rw [hcons0 x hx (c3 (by assumption) (by assumption))])
    | (refine hQ _ ?_
       have : decide (i < zl) = false := by assumption
       simp only [decide_eq_false_iff_not] at this
       rw [← hf, List.drop_eq_nil_of_le (by omega)]
       rfl)
    | (obtain ⟨e1, e2⟩ := hki (by assumption)
       rw [e1] at hz
       exact hR (i + 1) _ ⟨⟨by omega, e2⟩, hcons x hx (by first | exact c1 (by assumption) | exact c2 (by assumption))⟩ (by omega) ⟨hz ▸ rfl, trivial⟩ ⟨rfl, rfl, rfl, trivial⟩ rfl)

mutual
def kindE (K : List Int) : Ex → Int × Bool
  | .mk op m v ar => match kindL K ar with
    | none => (0, false)
    | some l =>
      if op = 1 then ((K[m.toNat]?).getD 0, true) else if op = 2 then ((clean v).k, true) else if op = 5 then (1, true) else if op = 6 then (1, fitK 2 l) else if op = 18 then (2, fitK 2 l)
      else if 12 ≤ op ∧ op ≤ 17 then (1, pairK ((l[0]?).getD 0) ((l[1]?).getD 0))
      else if op = 21 then (mx ((l[1]?).getD 0) ((l[2]?).getD 0), pairK ((l[1]?).getD 0) ((l[2]?).getD 0) && fitK 1 [(l[0]?).getD 0])
      else (1, fitK 1 l)
def kindL (K : List Int) : List Ex → Option (List Int)
  | [] => some []
  | e :: r => match kindE K e with
    | (k, true) => (kindL K r).map (k :: ·)
    | (_, false) => none
end
/- Where a kind may be asked for. -/
mutual
def Ex.fine (n : Nat) : Ex → Prop
  | .mk op m _ ar => arityE op = (ar.length : Int) ∧ (op = 1 → 0 ≤ m ∧ m < n) ∧ fineL n ar
def fineL (n : Nat) : List Ex → Prop
  | [] => True
  | e :: r => e.fine n ∧ fineL n r
end
theorem fine_mem {n : Nat} : ∀ {l : List Ex} {e : Ex}, fineL n l → e ∈ l → e.fine n
  | [], _, _, h => by simp at h
  | a :: r, e, hw, h => by
    rw [fineL] at hw
    rcases List.mem_cons.1 h with rfl | h
    · exact hw.1
    · exact fine_mem hw.2 h
def KindC (K : List Int) (e : Ex) : Prop := ∀ (cells : List PV) (C : List (List PV)), e.cells = cells → K.map i64c = C → ∃ k b, kindE K e = (k, b) ∧ PCall Tryz.prog 32 [.agg cells, .sl C] fun r => r = [.int .i64 k, .bool b]

set_option maxHeartbeats 4000000 in
theorem kind_c (K : List Int) (C : List (List PV)) (hC : K.map i64c = C) (op m vk vn : Int) (vs : ByteArray) (ar : List Ex) (es : List (List PV)) (hes : ar.map Ex.cells = es) (hal : (ar.length : Int) = arityE op) (hm : op = 1 → 0 ≤ m ∧ m < K.length) (IH : ∀ x, x ∈ ar → KindC K x) (k : Int) (b : Bool) (hq : kindE K (.mk op m ⟨vk, vn, vs⟩ ar) = (k, b)) :
    PCall Tryz.prog 32 [.agg [.int .i64 op, .int .i64 m, .int .i64 vk, .int .i64 vn, .str vs, .sl es], .sl C] fun r => r = [.int .i64 k, .bool b] := by
  have hel : es.length = ar.length := by rw [← hes]; simp
  have ha3 : arityE op ≤ 3 := by unfold arityE; (repeat' split) <;> omega
  have ha4 : ar.length ≤ 3 := by omega
  have hal2 : ar.length = (arityE op).toNat ∧ 0 ≤ arityE op := by omega
  clear hal
  rw [kindE] at hq
  refine PCall.x (nt := 121) (res := [.tmp 4, .tmp 5]) mixed tt_ok [] Tryz.func32 rfl rfl rfl c32 (Nat.le_of_ble_eq_true rfl) ?_
  intro cp cc lp Q' hcp hcc hlp hQ
  repeat' (first
    | (with_reducible refine Nm.mk ?_; intro z hz)
    | (with_reducible refine IfB.mk ?_ ?_ <;> (intro h; cases h))
    | (with_reducible refine Two.l ?_; refine Asm.mk ?_ ?_; focus (decide +kernel))
    | (with_reducible refine Two.r ?_)
    | (with_reducible refine Asm.mk ?_ ?_; focus (first | kernel_rfl | decide))
    | (with_reducible refine Asm.mk2 ?_ ?_)
    | ((fail_if_success (with_reducible first | refine hQ _ ?_ | refine Side.mk ?_ | refine isCP hcp ?_ | refine isCC hcc ?_ | refine isLP hlp ?_ | refine Ix.mk ?_ | refine SIx.mk ?_ | refine SEx.mk ?_ | refine EIx.mk ?_ | refine RIx.mk ?_ | show False | refine hR ?_ _ ?_ ?_ ?_ ?_ ?_ | refine hR2 ?_ _ ?_ ?_ ?_ ?_ ?_)); cbv))
  simp only [nc] at hz
  simp only [nc'] at hz
  have hzl : z.toNat = ar.length ∧ 0 ≤ z ∧ z ≤ 3 := by omega
  obtain ⟨hzl, hzl0, hzl1⟩ := hzl
  clear hz
  generalize z = zl at *
  refine mintT hlp 1 6 rfl ?_
  refine loopT (ι := Int × List Int × List (List PV) × Nat) mixed tt_ok hcp hcc hlp [1, 2, 18, 19] (fun p => [(6, .tok 1 p.2.2.1), (20, .p (.int .i64 p.1))]) (fun p => [.cells [.p (.int .i64 op), .p (.int .i64 m), .p (.int .i64 vk), .p (.int .i64 vn), .p (.str vs), .p (.sl es)], .spare p.2.2.2 1])
    (fun p => (0 ≤ p.1 ∧ p.1 ≤ zl) ∧ p.2.1.map i64c = p.2.2.1 ∧ p.2.2.1.length = p.2.2.2 ∧ p.2.1.length = p.1.toNat ∧ kindL K ar = (kindL K (ar.drop p.1.toNat)).map (p.2.1 ++ ·)) (fun p => (zl - p.1).toNat) (0, [], [], 0) 2 (fun _ => rfl) ⟨⟨by show (0 : Int) ≤ 0; omega, by show (0 : Int) ≤ zl; omega⟩, rfl, rfl, rfl, by show _ = (kindL K (ar.drop 0)).map _; rw [List.drop_zero]; cases kindL K ar <;> rfl⟩ ⟨rfl, rfl, trivial⟩ rfl ?_
  rintro R ⟨i, acc, C1, m1⟩ ⟨⟨hi0, hi1⟩, hC1, hm1, hacc, hkl⟩ hR
  replace hi0 : 0 ≤ i := hi0
  replace hi1 : i ≤ zl := hi1
  replace hC1 : acc.map i64c = C1 := hC1
  replace hm1 : C1.length = m1 := hm1
  replace hacc : acc.length = i.toNat := hacc
  replace hkl : kindL K ar = (kindL K (ar.drop i.toNat)).map (acc ++ ·) := hkl
  have hok : okEs 1 C1 = true := by rw [← hC1]; exact List.all_eq_true.2 fun e he => by obtain ⟨c, _, rfl⟩ := List.mem_map.1 he; rfl
  have hCl : C1.length ≤ 3 := by rw [← hC1, List.length_map, hacc]; omega
  have hk : decide (i < zl) = true → i < ar.length := by simp only [decide_eq_true_eq]; omega
  have hki : decide (i < zl) = true → IntKind.i64.wrap (i + 1) = i + 1 ∧ i + 1 ≤ zl := by simp only [decide_eq_true_eq]; intro h; exact ⟨wrap_in (by omega), by omega⟩
  have hdr : ∀ x, ar[i.toNat]? = some x → ar.drop i.toNat = x :: ar.drop (i + 1).toNat := by
    intro x hx
    rw [List.drop_eq_getElem_cons (List.getElem?_eq_some_iff.1 hx).1, (List.getElem?_eq_some_iff.1 hx).2, show (i + 1).toNat = i.toNat + 1 by omega]
  have hpc : ∀ (op' m' vk' vn' : Int) (vs' : ByteArray) (ar' : List Ex) (es' : List (List PV)), ar[i.toNat]? = some (.mk op' m' ⟨vk', vn', vs'⟩ ar') → ar'.map Ex.cells = es' → ∃ k2 b2, kindE K (.mk op' m' ⟨vk', vn', vs'⟩ ar') = (k2, b2) ∧ PCall Tryz.prog 32 [.agg [.int .i64 op', .int .i64 m', .int .i64 vk', .int .i64 vn', .str vs', .sl es'], .sl C] fun r => r = [.int .i64 k2, .bool b2] := by
    intro op' m' vk' vn' vs' ar' es' hx he
    exact IH _ (List.mem_of_getElem? hx) _ C (by rw [cells_mk, he]) hC
  have hend : decide (i < zl) = false → kindL K ar = some acc ∧ (acc.length : Int) = arityE op := by
    intro h
    simp only [decide_eq_false_iff_not] at h
    refine ⟨?_, by omega⟩
    rw [hkl, List.drop_eq_nil_of_le (by omega), kindL]
    simp
  have hf2 := kfit_c 2 acc C1 hC1
  have hf1 := kfit_c 1 acc C1 hC1
  have hm0 : decide (op = 1) = true → (0 ≤ m ∧ m < (K.length : Int)) := by simp only [decide_eq_true_eq]; exact hm
  have har : decide (12 ≤ op) = true → decide (op ≤ 17) = true → arityE op = 2 := by
    simp only [decide_eq_true_eq]; intro h1 h2; unfold arityE; (repeat' split) <;> omega
  have ha21 : decide (op = 21) = true → arityE op = 3 := by
    simp only [decide_eq_true_eq]; intro h1; unfold arityE; (repeat' split) <;> omega
  obtain ⟨y0, hy0⟩ : ∃ y, (acc[0]?).getD 0 = y := ⟨_, rfl⟩
  obtain ⟨y1, hy1⟩ : ∃ y, (acc[1]?).getD 0 = y := ⟨_, rfl⟩
  obtain ⟨y2, hy2⟩ : ∃ y, (acc[2]?).getD 0 = y := ⟨_, rfl⟩
  have hgt : ∀ (j : Nat), j < acc.length → C1[j]? = some [.int .i64 ((acc[j]?).getD 0)] := by
    intro j h
    rw [← hC1, List.getElem?_map, List.getElem?_eq_getElem h]; rfl
  have hi0a : decide (i < zl) = false → arityE op = 2 ∨ arityE op = 3 → C1[Int.toNat 0]? = some [.int .i64 y0] := by
    intro h1 h2
    have := (hend h1).2
    rw [← hy0]; exact hgt 0 (by omega)
  have hi1a : decide (i < zl) = false → arityE op = 2 ∨ arityE op = 3 → C1[Int.toNat 1]? = some [.int .i64 y1] := by
    intro h1 h2
    have := (hend h1).2
    rw [← hy1]; exact hgt 1 (by omega)
  have hi2a : decide (i < zl) = false → arityE op = 3 → C1[Int.toNat 2]? = some [.int .i64 y2] := by
    intro h1 h2
    have := (hend h1).2
    rw [← hy2]; exact hgt 2 (by omega)
  have hf0 := kfit_c 1 [y0] [[.int .i64 y0]] rfl
  have hp01 := pair_c y0 y1
  have hp12 := pair_c y1 y2
  repeat' (first
    | (with_reducible refine Nm.mk ?_; intro z hz)
    | (with_reducible refine IfB.mk ?_ ?_ <;> (intro h; cases h))
    | (with_reducible refine Two.l ?_; refine Asm.mk ?_ ?_; focus (decide +kernel))
    | (with_reducible refine Two.r ?_)
    | (with_reducible refine Asm.mk ?_ ?_; focus (first | (refine ⟨hm1.symm, rfl, hok, rfl, ?_, ?_⟩ <;> (clear hR hQ; simp only [List.length_cons, List.length_nil, maxLen]; omega)) | (show (_ : Bool) = true; kernel_rfl)))
    | (with_reducible refine isCP hcp ?_; first | (refine bP hcp (hf2) ?_; intro z hz) | (refine bP hcp (hf1) ?_; intro z hz) | (refine bP hcp (hf0) ?_; intro z hz) | (refine vP hcp (rclean_c vk vn vs) ?_; intro v hv) | (refine ibP hcp (hp01) ?_; intro z w hz hw) | (refine ibP hcp (hp12) ?_; intro z w hz hw))
    | (with_reducible refine isCC hcc ?_; first | (refine bA hcc (hf2) rfl ?_; intro z hz) | (refine bA hcc (hf1) rfl ?_; intro z hz) | (refine bA hcc (hf0) rfl ?_; intro z hz) | (refine vA hcc (rclean_c vk vn vs) rfl ?_; intro v hv) | (refine ibA hcc (hp01) rfl ?_; intro z w hz hw) | (refine ibA hcc (hp12) rfl ?_; intro z w hz hw))
    | (with_reducible refine Ix.ex hes hi0 (hk (by assumption)) ?_; intro op' m' vk' vn' vs' ar' es' hx hes')
    | (with_reducible refine Ix.map hC i64c_len (by decide) (hm0 (by assumption)).1 (hm0 (by assumption)).2 ?_; intro xk hxk)
    | (with_reducible refine isCC hcc ?_; obtain ⟨k2, b2, hk2, hcall⟩ := hpc _ _ _ _ _ _ _ hx hes'; refine xA hcc hcall rfl ?_)
    | (with_reducible refine Ix.giveK (by decide) (hi0a (by assumption) (by first | exact .inl (har (by assumption) (by assumption)) | exact .inr (ha21 (by assumption)))) rfl (by decide) ?_)
    | (with_reducible refine Ix.giveK (by decide) (hi1a (by assumption) (by first | exact .inl (har (by assumption) (by assumption)) | exact .inr (ha21 (by assumption)))) rfl (by decide) ?_)
    | (with_reducible refine Ix.giveK (by decide) (hi2a (by assumption) (ha21 (by assumption))) rfl (by decide) ?_)
    | (with_reducible refine Asm.mk2 ?_ ?_)
    | ((fail_if_success (with_reducible first | refine hQ _ ?_ | refine Side.mk ?_ | refine isCP hcp ?_ | refine isCC hcc ?_ | refine isLP hlp ?_ | refine Ix.mk ?_ | refine SIx.mk ?_ | refine SEx.mk ?_ | refine EIx.mk ?_ | refine RIx.mk ?_ | show False | refine hR ?_ _ ?_ ?_ ?_ ?_ ?_ | refine hR2 ?_ _ ?_ ?_ ?_ ?_ ?_)); cbv))
  · have hb2 : b2 = false := by simpa using hz
    refine hQ _ ?_
    rw [hkl, hdr _ hx, kindL, hk2, hb2] at hq
    simp only [Option.map_none, Prod.mk.injEq] at hq
    rw [← hq.1, ← hq.2]
  · have hb2 : b2 = true := by simpa using (show (!b2) = false by assumption)
    obtain ⟨e1, e2⟩ := hki (by assumption)
    rw [e1] at hz
    rename_i C3 hC3 m3 hm3
    have hnew : kindL K ar = (kindL K (ar.drop (i + 1).toNat)).map ((acc ++ [k2]) ++ ·) := by
      rw [hkl, hdr _ hx, kindL, hk2, hb2]
      dsimp only
      rw [Option.map_map]
      congr 1
      funext r
      simp
    refine hR (i + 1, acc ++ [k2], C3, m3) _ ⟨⟨by show 0 ≤ i + 1; omega, e2⟩, by show (acc ++ [k2]).map i64c = C3; rw [← hC3, ← hC1]; simp [i64c], by show C3.length = m3; rw [← hC3, ← hm3, List.length_append], by show (acc ++ [k2]).length = (i + 1).toNat; rw [List.length_append, hacc, List.length_singleton]; omega, hnew⟩ (by show (zl - (i + 1)).toNat < (zl - i).toNat; omega) ⟨rfl, hz ▸ rfl, trivial⟩ ⟨rfl, rfl, rfl, rfl, trivial⟩ rfl
  all_goals
    (refine hQ _ ?_
     rw [(hend (by assumption)).1] at hq
     dsimp only at hq
     clear hQ hR hcp hcc hlp hpc IH hend hk hki hdr hf1 hf2 hf0 hp01 hp12 hi0a hi1a hi2a hgt har ha21 hkl hm0 hm
     simp only [decide_eq_true_eq, decide_eq_false_iff_not] at *
     try rw [hy0] at hq
     try rw [hy1] at hq
     try rw [hy2] at hq
     repeat (first | rw [if_pos (by omega)] at hq | rw [if_neg (by omega)] at hq)
     simp only [Prod.mk.injEq] at hq
     obtain ⟨q1, q2⟩ := hq
     subst q1 q2
     subst_vars
     first
       | rfl
       | (simp_all; done))
theorem kind_all (K : List Int) : ∀ (n : Nat) (e : Ex), e.sz ≤ n → e.fine K.length → KindC K e
  | 0, .mk op m v ar, h, _ => by simp [Ex.sz] at h
  | n + 1, .mk op m ⟨vk, vn, vs⟩ ar, h, hf => by
    intro cells C he hC
    rw [cells_mk] at he
    subst he
    rw [Ex.fine] at hf
    obtain ⟨f1, f2, f3⟩ := hf
    refine ⟨_, _, rfl, kind_c K C hC op m vk vn vs ar _ rfl f1.symm f2 (fun x hx => kind_all K n x ?_ (fine_mem f3 hx)) _ _ rfl⟩
    have := sz_mem hx
    simp only [Ex.sz] at h; omega
/- What the columns of an expression are. -/
mutual
def Ex.cols : Ex → List Int
  | .mk op m _ ar => (if op = 1 then [m] else []) ++ colsOf ar
def colsOf : List Ex → List Int
  | [] => []
  | e :: r => e.cols ++ colsOf r
end
mutual
theorem walk_fine (n : Nat) : ∀ (e : Ex) (d k h : Int), (walkE e d k h).1 = true → (∀ c, c ∈ e.cols → c < (n : Int)) → e.fine n
  | .mk op m v ar, d, k, h, hw, hc => by
    rw [walkE] at hw
    split at hw
    · cases hw
    · rename_i hb
      have hb2 : badE op m v ar.length = false := by
        cases hx : badE op m v ar.length with
        | false => rfl
        | true => exact absurd (by rw [hx]; simp) hb
      rw [Ex.fine]
      simp only [badE, Bool.or_eq_false_iff, Bool.not_eq_false', decide_eq_true_eq, Bool.and_eq_false_iff, decide_eq_false_iff_not] at hb2
      refine ⟨hb2.1.1, fun h1 => ⟨?_, hc m (by rw [Ex.cols, if_pos h1]; simp)⟩, walkL_fine n ar _ _ _ hw (fun c h2 => hc c (by rw [Ex.cols]; exact List.mem_append_right _ h2))⟩
      rcases hb2.1.2 with h2 | h2
      · exact absurd h1 h2
      · omega
theorem walkL_fine (n : Nat) : ∀ (l : List Ex) (d k h : Int), (walkL l d k h).1 = true → (∀ c, c ∈ colsOf l → c < (n : Int)) → fineL n l
  | [], _, _, _, _, _ => trivial
  | a :: r, d, k, h, hw, hc => by
    rw [walkL] at hw
    rw [fineL]
    rcases hx : walkE a d k h with ⟨b, k', h'⟩
    rw [hx] at hw
    cases b with
    | false => cases hw
    | true =>
      refine ⟨walk_fine n a d k h (by rw [hx]) (fun c h2 => hc c (by rw [colsOf]; exact List.mem_append_left _ h2)), walkL_fine n r d k' h' hw (fun c h2 => hc c (by rw [colsOf]; exact List.mem_append_right _ h2))⟩
end
theorem built_fine {n : Nat} {e : Ex} (hb : builtM e = true) (hc : ∀ c, c ∈ e.cols → c < (n : Int)) : e.fine n := by
  refine walk_fine n e 1 0 0 ?_ hc
  have hb2 : (sizeM e).1 ≤ 400 := of_decide_eq_true hb
  cases hw : (walkE e 1 0 0).1 with
  | true => rfl
  | false =>
    rw [sizeM, if_neg (by rw [hw]; decide)] at hb2
    exact absurd hb2 (by decide)
end Go.Proofs.YtnhmnfokbinplaaGreat

namespace Go.Proofs.YtnhmnfokbinplaaGreat
open Go Go.RowKit
set_option maxRecDepth 100000
set_option linter.unusedSimpArgs false
set_option linter.unusedVariables false

def strV (s : ByteArray) : Val := ⟨2, 0, s⟩
theorem str_l (s : ByteArray) : PCall Tryz.prog 96 [.str s] fun r => r = [(strV s).enc] := by
  refine PCall.x (nt := 5) (res := [.cell 2 23]) mixed tt_ok [] Tryz.func96 rfl rfl rfl c96 (Nat.le_of_ble_eq_true rfl) ?_
  intro cp cc lp Q' hcp hcc hlp hQ
  repeat' (first
    | (with_reducible refine Nm.mk ?_; intro z hz)
    | (with_reducible refine IfB.mk ?_ ?_ <;> (intro h; cases h))
    | (with_reducible refine Two.l ?_; refine Asm.mk ?_ ?_; focus (decide +kernel))
    | (with_reducible refine Two.r ?_)
    | (with_reducible refine Asm.mk ?_ ?_; focus (first | kernel_rfl | decide))
    | (with_reducible refine Asm.mk2 ?_ ?_)
    | ((fail_if_success (with_reducible first | refine hQ _ ?_ | refine Side.mk ?_ | refine isCP hcp ?_ | refine isCC hcc ?_ | refine isLP hlp ?_ | refine Ix.mk ?_ | refine SIx.mk ?_ | refine SEx.mk ?_ | refine EIx.mk ?_ | refine RIx.mk ?_ | show False | refine hR ?_ _ ?_ ?_ ?_ ?_ ?_ | refine hR2 ?_ _ ?_ ?_ ?_ ?_ ?_)); cbv))
  all_goals (refine hQ _ ?_; clear hQ hcp hcc hlp; subst_vars; simp_all [strV, Val.enc])
theorem clean_l (k n : Int) (s : ByteArray) : PCall Tryz.prog 59 [.agg [.int .i64 k, .int .i64 n, .str s]] fun r => r = [(clean ⟨k, n, s⟩).enc] := by
  refine PCall.x (nt := 16) (res := [.cell 2 23]) mixed tt_ok [] Tryz.func59 rfl rfl rfl c59 (Nat.le_of_ble_eq_true rfl) ?_
  intro cp cc lp Q' hcp hcc hlp hQ
  repeat' (first
    | (with_reducible refine Nm.mk ?_; intro z hz)
    | (with_reducible refine IfB.mk ?_ ?_ <;> (intro h; cases h))
    | (with_reducible refine Two.l ?_; refine Asm.mk ?_ ?_; focus (decide +kernel))
    | (with_reducible refine Two.r ?_)
    | (with_reducible refine Asm.mk ?_ ?_; focus (first | kernel_rfl | decide))
    | (with_reducible refine isCP hcp ?_; first | (refine vP hcp (num_l _) ?_; intro v hv) | (refine vP hcp (str_l _) ?_; intro v hv) | (refine vP hcp (none_l) ?_; intro v hv))
    | (with_reducible refine isCC hcc ?_; first | (refine vA hcc (num_l _) rfl ?_; intro v hv) | (refine vA hcc (str_l _) rfl ?_; intro v hv) | (refine vA hcc (none_l) rfl ?_; intro v hv))
    | (with_reducible refine Asm.mk2 ?_ ?_)
    | ((fail_if_success (with_reducible first | refine hQ _ ?_ | refine Side.mk ?_ | refine isCP hcp ?_ | refine isCC hcc ?_ | refine isLP hlp ?_ | refine Ix.mk ?_ | refine SIx.mk ?_ | refine SEx.mk ?_ | refine EIx.mk ?_ | refine RIx.mk ?_ | show False | refine hR ?_ _ ?_ ?_ ?_ ?_ ?_ | refine hR2 ?_ _ ?_ ?_ ?_ ?_ ?_)); cbv))
  all_goals (refine hQ _ ?_; clear hQ hcp hcc hlp; subst_vars; simp_all [clean, num, strV, Val.enc, Val.zero])
theorem truth_l (b : Bool) : PCall Tryz.prog 84 [.bool b] fun r => r = [(flag b).enc] := by
  have h1 := num_l 1
  have h0 := num_l 0
  refine PCall.x (nt := 6) (res := [.cell 2 23]) mixed tt_ok [] Tryz.func84 rfl rfl rfl c84 (Nat.le_of_ble_eq_true rfl) ?_
  intro cp cc lp Q' hcp hcc hlp hQ
  repeat' (first
    | (with_reducible refine Nm.mk ?_; intro z hz)
    | (with_reducible refine IfB.mk ?_ ?_ <;> (intro h; cases h))
    | (with_reducible refine Two.l ?_; refine Asm.mk ?_ ?_; focus (decide +kernel))
    | (with_reducible refine Two.r ?_)
    | (with_reducible refine Asm.mk ?_ ?_; focus (first | kernel_rfl | decide))
    | (with_reducible refine isCP hcp ?_; first | (refine vP hcp (h1) ?_; intro v hv) | (refine vP hcp (h0) ?_; intro v hv))
    | (with_reducible refine isCC hcc ?_; first | (refine vA hcc (h1) rfl ?_; intro v hv) | (refine vA hcc (h0) rfl ?_; intro v hv))
    | (with_reducible refine Asm.mk2 ?_ ?_)
    | ((fail_if_success (with_reducible first | refine hQ _ ?_ | refine Side.mk ?_ | refine isCP hcp ?_ | refine isCC hcc ?_ | refine isLP hlp ?_ | refine Ix.mk ?_ | refine SIx.mk ?_ | refine SEx.mk ?_ | refine EIx.mk ?_ | refine RIx.mk ?_ | show False | refine hR ?_ _ ?_ ?_ ?_ ?_ ?_ | refine hR2 ?_ _ ?_ ?_ ?_ ?_ ?_)); cbv))
  all_goals (refine hQ _ ?_; clear hQ hcp hcc hlp h1 h0; subst_vars; rfl)
theorem rtrue_l (k n : Int) (s : ByteArray) : PCall Tryz.prog 88 [.agg [.int .i64 k, .int .i64 n, .str s]] fun r => r = [.bool (trueV ⟨k, n, s⟩)] := by
  refine PCall.x (nt := 11) (res := [.tmp 2]) mixed tt_ok [] Tryz.func88 rfl rfl rfl c88 (Nat.le_of_ble_eq_true rfl) ?_
  intro cp cc lp Q' hcp hcc hlp hQ
  repeat' (first
    | (with_reducible refine Nm.mk ?_; intro z hz)
    | (with_reducible refine IfB.mk ?_ ?_ <;> (intro h; cases h))
    | (with_reducible refine Two.l ?_; refine Asm.mk ?_ ?_; focus (decide +kernel))
    | (with_reducible refine Two.r ?_)
    | (with_reducible refine Asm.mk ?_ ?_; focus (first | kernel_rfl | decide))
    | (with_reducible refine Asm.mk2 ?_ ?_)
    | ((fail_if_success (with_reducible first | refine hQ _ ?_ | refine Side.mk ?_ | refine isCP hcp ?_ | refine isCC hcc ?_ | refine isLP hlp ?_ | refine Ix.mk ?_ | refine SIx.mk ?_ | refine SEx.mk ?_ | refine EIx.mk ?_ | refine RIx.mk ?_ | show False | refine hR ?_ _ ?_ ?_ ?_ ?_ ?_ | refine hR2 ?_ _ ?_ ?_ ?_ ?_ ?_)); cbv))
  all_goals (refine hQ _ ?_; clear hQ hcp hcc hlp; subst_vars; simp_all [trueV])
theorem rnot_l (k n : Int) (s : ByteArray) : PCall Tryz.prog 83 [.agg [.int .i64 k, .int .i64 n, .str s]] fun r => r = [(vnot ⟨k, n, s⟩).enc] := by
  refine PCall.x (nt := 11) (res := [.cell 2 23]) mixed tt_ok [] Tryz.func83 rfl rfl rfl c83 (Nat.le_of_ble_eq_true rfl) ?_
  intro cp cc lp Q' hcp hcc hlp hQ
  repeat' (first
    | (with_reducible refine Nm.mk ?_; intro z hz)
    | (with_reducible refine IfB.mk ?_ ?_ <;> (intro h; cases h))
    | (with_reducible refine Two.l ?_; refine Asm.mk ?_ ?_; focus (decide +kernel))
    | (with_reducible refine Two.r ?_)
    | (with_reducible refine Asm.mk ?_ ?_; focus (first | kernel_rfl | decide))
    | (with_reducible refine isCP hcp ?_; first | (refine vP hcp (none_l) ?_; intro v hv) | (refine vP hcp (truth_l _) ?_; intro v hv))
    | (with_reducible refine isCC hcc ?_; first | (refine vA hcc (none_l) rfl ?_; intro v hv) | (refine vA hcc (truth_l _) rfl ?_; intro v hv))
    | (with_reducible refine Asm.mk2 ?_ ?_)
    | ((fail_if_success (with_reducible first | refine hQ _ ?_ | refine Side.mk ?_ | refine isCP hcp ?_ | refine isCC hcc ?_ | refine isLP hlp ?_ | refine Ix.mk ?_ | refine SIx.mk ?_ | refine SEx.mk ?_ | refine EIx.mk ?_ | refine RIx.mk ?_ | show False | refine hR ?_ _ ?_ ?_ ?_ ?_ ?_ | refine hR2 ?_ _ ?_ ?_ ?_ ?_ ?_)); cbv))
  all_goals (refine hQ _ ?_; clear hQ hcp hcc hlp; subst_vars; simp_all [vnot, Val.enc])
theorem rcat_l (k n : Int) (s : ByteArray) (k' n' : Int) (s' : ByteArray) (h : s.size ≤ 281474976710656) (h' : s'.size ≤ 281474976710656) : PCall Tryz.prog 86 [.agg [.int .i64 k, .int .i64 n, .str s], .agg [.int .i64 k', .int .i64 n', .str s']] fun r => r = [(catV ⟨k, n, s⟩ ⟨k', n', s'⟩).enc] := by
  have hb : ∀ (k n : Int) (s : ByteArray), s.size ≤ 281474976710656 → (clean ⟨k, n, s⟩).s.size ≤ 281474976710656 := by
    intro k n s h; unfold clean; split
    · show (0 : Nat) ≤ _; omega
    · split
      · exact h
      · show (0 : Nat) ≤ _; omega
  have h1 := hb k n s h
  have h2 := hb k' n' s' h'
  have hcat : catV ⟨k, n, s⟩ ⟨k', n', s'⟩ = catV (clean ⟨k, n, s⟩) (clean ⟨k', n', s'⟩) := by
    unfold catV clean
    by_cases a : k = 2 <;> by_cases b : k' = 2 <;> by_cases a1 : k = 1 <;> by_cases b1 : k' = 1 <;> simp [a, b, a1, b1, Val.zero] <;> omega
  rw [hcat]
  obtain ⟨u, hu⟩ : ∃ u, clean ⟨k, n, s⟩ = u := ⟨_, rfl⟩
  obtain ⟨v, hv⟩ : ∃ u, clean ⟨k', n', s'⟩ = u := ⟨_, rfl⟩
  have c1 := clean_l k n s
  have c2 := clean_l k' n' s'
  rw [hu] at h1 c1 ⊢
  rw [hv] at h2 c2 ⊢
  obtain ⟨uk, un, us⟩ := u
  obtain ⟨vk, vn, vs⟩ := v
  have hmx : ¬ maxI < ((us.size + vs.size : Nat) : Int) := by
    have : maxI = 9223372036854775807 := by decide
    simp only at h1 h2
    omega
  have hw : ∀ a b z : Int, (us.size : Int) = a → (vs.size : Int) = b → IntKind.i64.wrap (a + b) = z → z = us.size + vs.size := by
    intro a b z g1 g2 g3; simp only at h1 h2; rw [wrap_in (by omega)] at g3; omega
  have e1 : ∀ z : Int, z = us.size + vs.size → decide (1000 < z) = true → catV ⟨uk, un, us⟩ ⟨vk, vn, vs⟩ = Val.zero := by
    intro z g h; simp only [decide_eq_true_eq] at h; unfold catV; rw [if_pos]; right; right; show (1000 : Int) < us.size + vs.size; omega
  have e2 : ∀ z : Int, z = us.size + vs.size → decide (1000 < z) = false → uk = 2 → vk = 2 → catV ⟨uk, un, us⟩ ⟨vk, vn, vs⟩ = ⟨2, 0, us ++ vs⟩ := by
    intro z g h a b; simp only [decide_eq_false_iff_not] at h; unfold catV; rw [if_neg]
    simp only [not_or, Decidable.not_not]
    exact ⟨a, b, by omega⟩
  have e3 : ¬ uk = 2 ∨ ¬ vk = 2 → catV ⟨uk, un, us⟩ ⟨vk, vn, vs⟩ = Val.zero := by
    intro h; unfold catV; rw [if_pos]; rcases h with h | h
    · exact .inl h
    · exact .inr (.inl h)
  clear hb hcat hu hv h h'
  simp only [Val.enc] at c1 c2
  refine PCall.x (nt := 34) (res := [.cell 4 23]) mixed tt_ok [] Tryz.func86 rfl rfl rfl c86 (Nat.le_of_ble_eq_true rfl) ?_
  intro cp cc lp Q' hcp hcc hlp hQ
  repeat' (first
    | (with_reducible refine Nm.mk ?_; intro z hz)
    | (with_reducible refine IfB.mk ?_ ?_ <;> (intro h; cases h))
    | (with_reducible refine Two.l ?_; refine Asm.mk ?_ ?_; focus (decide +kernel))
    | (with_reducible refine Two.r ?_)
    | (with_reducible refine Asm.mk ?_ ?_; focus (first | exact hmx | kernel_rfl | decide))
    | (with_reducible refine isCP hcp ?_; first | (refine xP hcp (c1) ?_; skip) | (refine xP hcp (c2) ?_; skip) | (refine vP hcp (none_l) ?_; intro v hv) | (refine vP hcp (str_l _) ?_; intro v hv))
    | (with_reducible refine isCC hcc ?_; first | (refine xA hcc (c1) rfl ?_; skip) | (refine xA hcc (c2) rfl ?_; skip) | (refine vA hcc (none_l) rfl ?_; intro v hv) | (refine vA hcc (str_l _) rfl ?_; intro v hv))
    | (with_reducible refine Asm.mk2 ?_ ?_)
    | ((fail_if_success (with_reducible first | refine hQ _ ?_ | refine Side.mk ?_ | refine isCP hcp ?_ | refine isCC hcc ?_ | refine isLP hlp ?_ | refine Ix.mk ?_ | refine SIx.mk ?_ | refine SEx.mk ?_ | refine EIx.mk ?_ | refine RIx.mk ?_ | show False | refine hR ?_ _ ?_ ?_ ?_ ?_ ?_ | refine hR2 ?_ _ ?_ ?_ ?_ ?_ ?_)); cbv))
  · refine hQ _ ?_
    rw [e3 (.inl (by simpa using hz))]; clear hQ hcp hcc hlp c1 c2; subst_vars; rfl
  · refine hQ _ ?_
    rw [e3 (.inr (by simpa using hz))]; clear hQ hcp hcc hlp c1 c2; subst_vars; rfl
  · refine hQ _ ?_
    have g := hw _ _ _ (show (us.size : Int) = _ by assumption) (show (vs.size : Int) = _ by assumption) (by assumption)
    rw [e1 _ g (by assumption)]; clear hQ hcp hcc hlp c1 c2 hw e1 e2 e3; subst hv; rfl
  · refine hQ _ ?_
    have g := hw _ _ _ (show (us.size : Int) = _ by assumption) (show (vs.size : Int) = _ by assumption) (by assumption)
    have a : uk = 2 := by have h : (!decide (uk = 2)) = false := by assumption
                          simpa using h
    have b : vk = 2 := by have h : (!decide (vk = 2)) = false := by assumption
                          simpa using h
    rw [e2 _ g (by assumption) a b]; clear hQ hcp hcc hlp c1 c2 hw e1 e2 e3; subst hv; subst hz; rfl

theorem less_cmp : ∀ a b : List UInt8, (if (a == b) = true then (0 : Int) else if Op.bytesLess a b = true then -1 else 1) = Lib.compareBytes a b
  | [], [] => by simp [Lib.compareBytes]
  | [], _ :: _ => by simp [Lib.compareBytes, Op.bytesLess]
  | _ :: _, [] => by simp [Lib.compareBytes, Op.bytesLess]
  | x :: a, y :: b => by
    have ih := less_cmp a b
    rw [Lib.compareBytes, ← ih]
    by_cases h1 : x < y
    · have : x ≠ y := by rintro rfl; exact UInt8.lt_irrefl _ h1
      simp [Op.bytesLess, h1, this]
    · by_cases h2 : y < x
      · have : x ≠ y := by rintro rfl; exact UInt8.lt_irrefl _ h2
        simp [Op.bytesLess, h1, h2, this]
      · have : x = y := by
          rw [UInt8.lt_iff_toNat_lt] at h1 h2
          exact UInt8.toNat_inj.1 (by omega)
        subst this
        simp [Op.bytesLess, h1]
theorem cmp_str (a b : ByteArray) : cmpB (sless a b) (sbeq a b) = cmpS a b := by
  unfold cmpS
  rw [← less_cmp]
  unfold cmpB sless sbeq
  rw [ByteArray.toList_eq, ByteArray.toList_eq]
theorem cmpS_self (a : ByteArray) : cmpS a a = 0 := by unfold cmpS; rw [← less_cmp]; simp
theorem cmp_int (a b : Int) : cmpB (decide (a < b)) (decide (a = b)) = cmpI a b := by
  unfold cmpB cmpI
  by_cases h : a = b
  · subst h; simp
  · by_cases g : a < b <;> simp [h, g] <;> omega
theorem cmp_ne {a b : Int} (h : ¬ a = b) : cmpB (decide (a < b)) false = cmpI a b := by
  rw [← cmp_int, decide_eq_false h]
theorem cmpI_ne {a b : Int} (h : ¬ a = b) : ¬ cmpI a b = 0 := by unfold cmpI; split <;> (try split) <;> omega
theorem cmpI_self (a : Int) : cmpI a a = 0 := by unfold cmpI; simp
theorem clean_k1 {v : Val} (h : (clean v).k = 1) : (clean v).s = ⟨#[]⟩ := by
  unfold clean at h ⊢; split at h
  · rename_i g; rw [if_pos g]
  · split at h
    · cases h
    · cases h
theorem clean_k2 {v : Val} (h : ¬ (clean v).k = 1) : (clean v).n = 0 := by
  unfold clean at h ⊢; split at h
  · exact absurd rfl h
  · rename_i g; rw [if_neg g]; split <;> rfl
theorem rorder_l (k n : Int) (s : ByteArray) (k' n' : Int) (s' : ByteArray) : PCall Tryz.prog 107 [.agg [.int .i64 k, .int .i64 n, .str s], .agg [.int .i64 k', .int .i64 n', .str s']] fun r => r = [.int .i64 (orderV ⟨k, n, s⟩ ⟨k', n', s'⟩)] := by
  have c1 := clean_l k n s
  have c2 := clean_l k' n' s'
  have a1 := @clean_k1 ⟨k, n, s⟩
  have a2 := @clean_k1 ⟨k', n', s'⟩
  have b1 := @clean_k2 ⟨k, n, s⟩
  have b2 := @clean_k2 ⟨k', n', s'⟩
  unfold orderV
  obtain ⟨u, hu⟩ : ∃ u, clean ⟨k, n, s⟩ = u := ⟨_, rfl⟩
  obtain ⟨v, hv⟩ : ∃ u, clean ⟨k', n', s'⟩ = u := ⟨_, rfl⟩
  rw [hu] at c1 a1 b1 ⊢
  rw [hv] at c2 a2 b2 ⊢
  obtain ⟨uk, un, us⟩ := u
  obtain ⟨vk, vn, vs⟩ := v
  simp only [Val.enc] at c1 c2
  simp only at a1 a2 b1 b2 ⊢
  have e1 : (!decide (uk = vk)) = true → cmpB (decide (uk < vk)) false = orI [cmpI uk vk, cmpI un vn, cmpS us vs] := by
    intro h; simp only [Bool.not_eq_true', decide_eq_false_iff_not] at h
    rw [cmp_ne h]; unfold orI; rw [if_neg (cmpI_ne h)]
  have e2 : (!decide (uk = vk)) = false → decide (uk = 1) = true → cmpB (decide (un < vn)) (decide (un = vn)) = orI [cmpI uk vk, cmpI un vn, cmpS us vs] := by
    intro h g; simp only [Bool.not_eq_false', decide_eq_true_eq] at h g
    subst h
    rw [cmp_int, a1 g, a2 g, cmpS_self, cmpI_self]
    simp only [orI, if_true]; split
    · rename_i q; exact q
    · rfl
  have e3 : (!decide (uk = vk)) = false → decide (uk = 1) = false → cmpB (sless us vs) (sbeq us vs) = orI [cmpI uk vk, cmpI un vn, cmpS us vs] := by
    intro h g; simp only [Bool.not_eq_false', decide_eq_true_eq, decide_eq_false_iff_not] at h g
    subst h
    rw [cmp_str, b1 g, b2 g, cmpI_self, cmpI_self]
    simp only [orI, if_true]; split
    · rename_i q; exact q
    · rfl
  obtain ⟨Z, hZ⟩ : ∃ Z, orI [cmpI uk vk, cmpI un vn, cmpS us vs] = Z := ⟨_, rfl⟩
  rw [hZ] at e1 e2 e3 ⊢
  clear hu hv a1 a2 b1 b2 hZ
  refine PCall.x (nt := 45) (res := [.tmp 4]) mixed tt_ok [] Tryz.func107 rfl rfl rfl c107 (Nat.le_of_ble_eq_true rfl) ?_
  intro cp cc lp Q' hcp hcc hlp hQ
  repeat' (first
    | (with_reducible refine Nm.mk ?_; intro z hz)
    | (with_reducible refine IfB.mk ?_ ?_ <;> (intro h; cases h))
    | (with_reducible refine Two.l ?_; refine Asm.mk ?_ ?_; focus (decide +kernel))
    | (with_reducible refine Two.r ?_)
    | (with_reducible refine Asm.mk ?_ ?_; focus (first | kernel_rfl | decide))
    | (with_reducible refine isCP hcp ?_; first | (refine xP hcp (c1) ?_; skip) | (refine xP hcp (c2) ?_; skip) | (refine iP hcp (rcmp_c _ _) ?_; intro z hz))
    | (with_reducible refine isCC hcc ?_; first | (refine xA hcc (c1) rfl ?_; skip) | (refine xA hcc (c2) rfl ?_; skip) | (refine iA hcc (rcmp_c _ _) rfl ?_; intro z hz))
    | (with_reducible refine Asm.mk2 ?_ ?_)
    | ((fail_if_success (with_reducible first | refine hQ _ ?_ | refine Side.mk ?_ | refine isCP hcp ?_ | refine isCC hcc ?_ | refine isLP hlp ?_ | refine Ix.mk ?_ | refine SIx.mk ?_ | refine SEx.mk ?_ | refine EIx.mk ?_ | refine RIx.mk ?_ | show False | refine hR ?_ _ ?_ ?_ ?_ ?_ ?_ | refine hR2 ?_ _ ?_ ?_ ?_ ?_ ?_)); cbv))
  all_goals (refine hQ _ ?_)
  · rw [← e1 (by assumption)]; clear hQ hcp hcc hlp c1 c2 e1 e2 e3; subst_vars; rfl
  · rw [← e2 (by assumption) (by assumption)]; clear hQ hcp hcc hlp c1 c2 e1 e2 e3; subst_vars; rfl
  · rw [← e3 (by assumption) (by assumption)]; clear hQ hcp hcc hlp c1 c2 e1 e2 e3; subst_vars; rfl
theorem rtest_l (op k n : Int) (s : ByteArray) (k' n' : Int) (s' : ByteArray) : PCall Tryz.prog 85 [.int .i64 op, .agg [.int .i64 k, .int .i64 n, .str s], .agg [.int .i64 k', .int .i64 n', .str s']] fun r => r = [(testV op ⟨k, n, s⟩ ⟨k', n', s'⟩).enc] := by
  have c1 := clean_l k n s
  have c2 := clean_l k' n' s'
  obtain ⟨q, hq⟩ : ∃ q, testV op ⟨k, n, s⟩ ⟨k', n', s'⟩ = q := ⟨_, rfl⟩
  rw [hq]
  unfold testV at hq
  obtain ⟨u, hu⟩ : ∃ u, clean ⟨k, n, s⟩ = u := ⟨_, rfl⟩
  obtain ⟨v, hv⟩ : ∃ u, clean ⟨k', n', s'⟩ = u := ⟨_, rfl⟩
  rw [hu, hv] at hq
  rw [hu] at c1
  rw [hv] at c2
  obtain ⟨uk, un, us⟩ := u
  obtain ⟨vk, vn, vs⟩ := v
  have ho := rorder_l uk un us vk vn vs
  obtain ⟨o, hoo⟩ : ∃ o, orderV ⟨uk, un, us⟩ ⟨vk, vn, vs⟩ = o := ⟨_, rfl⟩
  rw [hoo] at ho hq
  simp only [Val.enc] at c1 c2
  simp only at hq
  clear hu hv hoo
  refine PCall.x (nt := 56) (res := [.cell 6 23]) mixed tt_ok [] Tryz.func85 rfl rfl rfl c85 (Nat.le_of_ble_eq_true rfl) ?_
  intro cp cc lp Q' hcp hcc hlp hQ
  repeat' (first
    | (with_reducible refine Nm.mk ?_; intro z hz)
    | (with_reducible refine IfB.mk ?_ ?_ <;> (intro h; cases h))
    | (with_reducible refine Two.l ?_; refine Asm.mk ?_ ?_; focus (decide +kernel))
    | (with_reducible refine Two.r ?_)
    | (with_reducible refine Asm.mk ?_ ?_; focus (first | kernel_rfl | decide))
    | (with_reducible refine isCP hcp ?_; first | (refine xP hcp (c1) ?_; skip) | (refine xP hcp (c2) ?_; skip) | (refine xP hcp (ho) ?_; skip) | (refine vP hcp (none_l) ?_; intro v hv) | (refine vP hcp (truth_l _) ?_; intro v hv))
    | (with_reducible refine isCC hcc ?_; first | (refine xA hcc (c1) rfl ?_; skip) | (refine xA hcc (c2) rfl ?_; skip) | (refine xA hcc (ho) rfl ?_; skip) | (refine vA hcc (none_l) rfl ?_; intro v hv) | (refine vA hcc (truth_l _) rfl ?_; intro v hv))
    | (with_reducible refine Asm.mk2 ?_ ?_)
    | ((fail_if_success (with_reducible first | refine hQ _ ?_ | refine Side.mk ?_ | refine isCP hcp ?_ | refine isCC hcc ?_ | refine isLP hlp ?_ | refine Ix.mk ?_ | refine SIx.mk ?_ | refine SEx.mk ?_ | refine EIx.mk ?_ | refine RIx.mk ?_ | show False | refine hR ?_ _ ?_ ?_ ?_ ?_ ?_ | refine hR2 ?_ _ ?_ ?_ ?_ ?_ ?_)); cbv))
  all_goals (refine hQ _ ?_; clear hQ hcp hcc hlp c1 c2 ho; rw [← hq]; clear hq)
  all_goals first
    | (have a : uk = 0 := of_decide_eq_true (by assumption)
       rw [if_pos (.inl a), hv]; rfl)
    | (have a : vk = 0 := of_decide_eq_true (by assumption)
       rw [if_pos (.inr (.inl a)), hv]; rfl)
    | (have a : ¬ uk = 0 := of_decide_eq_false (by assumption)
       have b : ¬ vk = 0 := of_decide_eq_false (by assumption)
       first
         | (have c := of_decide_eq_true (show decide (op = _) = true by assumption)
            subst c
            rw [if_neg (by omega)]
            subst_vars
            rfl)
         | (have c1 : ¬ op = 12 := of_decide_eq_false (by assumption)
            have c2 : ¬ op = 13 := of_decide_eq_false (by assumption)
            have c3 : ¬ op = 14 := of_decide_eq_false (by assumption)
            have c4 : ¬ op = 15 := of_decide_eq_false (by assumption)
            have c5 : ¬ op = 16 := of_decide_eq_false (by assumption)
            have c6 : ¬ op = 17 := of_decide_eq_false (by assumption)
            rw [if_pos (by omega), hv]; rfl))
theorem end_l (op k n : Int) (s : ByteArray) : PCall Tryz.prog 108 [.agg [.int .i64 k, .int .i64 n, .str s], .ip [.int .i64 op]] fun r => r = [.bool (isT ⟨k, n, s⟩ (decide (op = 20)))] := by
  refine PCall.x (nt := 15) (res := [.tmp 3]) mixed tt_ok [] Tryz.func108 rfl rfl rfl c108 (Nat.le_of_ble_eq_true rfl) ?_
  intro cp cc lp Q' hcp hcc hlp hQ
  repeat' (first
    | (with_reducible refine Nm.mk ?_; intro z hz)
    | (with_reducible refine IfB.mk ?_ ?_ <;> (intro h; cases h))
    | (with_reducible refine Two.l ?_; refine Asm.mk ?_ ?_; focus (decide +kernel))
    | (with_reducible refine Two.r ?_)
    | (with_reducible refine Asm.mk ?_ ?_; focus (first | kernel_rfl | decide))
    | (with_reducible refine Asm.mk2 ?_ ?_)
    | ((fail_if_success (with_reducible first | refine hQ _ ?_ | refine Side.mk ?_ | refine isCP hcp ?_ | refine isCC hcc ?_ | refine isLP hlp ?_ | refine Ix.mk ?_ | refine SIx.mk ?_ | refine SEx.mk ?_ | refine EIx.mk ?_ | refine RIx.mk ?_ | show False | refine hR ?_ _ ?_ ?_ ?_ ?_ ?_ | refine hR2 ?_ _ ?_ ?_ ?_ ?_ ?_)); cbv))
  all_goals (refine hQ _ ?_; clear hQ hcp hcc hlp; subst_vars; simp_all [isT])
theorem rboth_l (op k n : Int) (s : ByteArray) (k' n' : Int) (s' : ByteArray) : PCall Tryz.prog 87 [.int .i64 op, .agg [.int .i64 k, .int .i64 n, .str s], .agg [.int .i64 k', .int .i64 n', .str s']] fun r => r = [(both op ⟨k, n, s⟩ ⟨k', n', s'⟩).enc] := by
  obtain ⟨q, hq⟩ : ∃ q, both op ⟨k, n, s⟩ ⟨k', n', s'⟩ = q := ⟨_, rfl⟩
  rw [hq]
  unfold both at hq
  have h1 := end_l op k n s
  have h2 := end_l op k' n' s'
  refine PCall.x (nt := 42) (res := [.cell 6 23]) mixed tt_ok [(108, [0])] Tryz.func87 rfl rfl rfl c87 (Nat.le_of_ble_eq_true rfl) ?_
  intro cp cc lp Q' hcp hcc hlp hQ
  repeat' (first
    | (with_reducible refine Nm.mk ?_; intro z hz)
    | (with_reducible refine IfB.mk ?_ ?_ <;> (intro h; cases h))
    | (with_reducible refine Two.l ?_; refine Asm.mk ?_ ?_; focus (decide +kernel))
    | (with_reducible refine Two.r ?_)
    | (with_reducible refine Asm.mk ?_ ?_; focus (first | kernel_rfl | decide))
    | (with_reducible refine isCP hcp ?_; first | (refine bP hcp (h1) ?_; intro z hz) | (refine bP hcp (h2) ?_; intro z hz) | (refine vP hcp (none_l) ?_; intro v hv) | (refine vP hcp (truth_l _) ?_; intro v hv))
    | (with_reducible refine isCC hcc ?_; first | (refine bA hcc (h1) rfl ?_; intro z hz) | (refine bA hcc (h2) rfl ?_; intro z hz) | (refine vA hcc (none_l) rfl ?_; intro v hv) | (refine vA hcc (truth_l _) rfl ?_; intro v hv))
    | (with_reducible refine Asm.mk2 ?_ ?_)
    | ((fail_if_success (with_reducible first | refine hQ _ ?_ | refine Side.mk ?_ | refine isCP hcp ?_ | refine isCC hcc ?_ | refine isLP hlp ?_ | refine Ix.mk ?_ | refine SIx.mk ?_ | refine SEx.mk ?_ | refine EIx.mk ?_ | refine RIx.mk ?_ | show False | refine hR ?_ _ ?_ ?_ ?_ ?_ ?_ | refine hR2 ?_ _ ?_ ?_ ?_ ?_ ?_)); cbv))
  all_goals (refine hQ _ ?_; clear hQ hcp hcc hlp h1 h2; rw [← hq]; clear hq)
  all_goals (simp only [] at *)
  all_goals first
    | (have a : op = 19 := by have h : (!decide (op = 19)) = false := by assumption
                              simpa using h
       subst a
       simp_all [Val.enc]; done)
    | (have a : ¬ op = 19 := by have h : (!decide (op = 19)) = true := by assumption
                                simpa using h
       simp_all [Val.enc]; done)
end Go.Proofs.YtnhmnfokbinplaaGreat

namespace Go.Proofs.YtnhmnfokbinplaaGreat
open Go Go.RowKit
set_option maxRecDepth 100000
set_option linter.unusedSimpArgs false
set_option linter.unusedVariables false

abbrev In64 (n : Int) : Prop := -9223372036854775808 ≤ n ∧ n ≤ 9223372036854775807
theorem uabs4 {n : Int} (h : In64 n) : (dig (uabs n)).length ≤ 4 := dig4 (by have := uabs_le h; omega)
theorem clean_in {v : Val} (h : In64 v.n) : In64 (clean v).n := by
  unfold clean; split
  · exact h
  · split
    · show In64 0; decide
    · decide
theorem clean_k0 (v : Val) : (clean v).k = 1 ↔ v.k = 1 := by
  unfold clean; split
  · rename_i h; simp [h]
  · rename_i h; split <;> simp [h, Val.zero]
theorem clean_n {v : Val} (h : v.k = 1) : (clean v).n = v.n := by unfold clean; rw [if_pos h]
theorem reckon_clean (op : Int) (a b : Val) : reckon op (clean a) (clean b) = reckon op a b := by
  unfold reckon
  simp only [clean_k0]
  split
  · rename_i h; rw [clean_n h.1, clean_n h.2]
  · rfl
theorem uabs_small {a b c : Int} (ha : In64 a) (h : uabs c ≤ uabs a + b) (hb : b ≤ 18446744073709551616) : (dig (uabs c)).length ≤ 10 := by
  have := uabs_le ha
  exact Nat.le_trans (dig_len 5 (uabs c) (by omega)) (by decide)
theorem tmod_range {x y : Int} (hx : In64 x) : In64 (x.tmod y) := by
  have h3 : (x.tmod y).natAbs ≤ x.natAbs := by rw [Int.natAbs_tmod]; exact Nat.mod_le _ _
  have h4 : 0 ≤ x → 0 ≤ x.tmod y := fun h => Int.tmod_nonneg _ h
  have h5 : x ≤ 0 → x.tmod y ≤ 0 := fun h => by
    have := Int.tmod_nonneg y (a := -x) (by omega)
    rw [Int.neg_tmod] at this; omega
  generalize x.tmod y = d at *
  omega
theorem uabs_tdiv {x y : Int} (hx : In64 x) : (dig (uabs (x.tdiv y))).length ≤ 10 := by
  have h3 : (x.tdiv y).natAbs ≤ x.natAbs := by rw [Int.natAbs_tdiv]; exact Nat.div_le_self _ _
  have : uabs (x.tdiv y) ≤ 9223372036854775808 := by
    generalize x.tdiv y = d at *
    unfold uabs; split <;> omega
  exact Nat.le_trans (dig_len 4 _ (by omega)) (by decide)

set_option maxHeartbeats 4000000 in
theorem rreckon_l (op k n : Int) (s : ByteArray) (k' n' : Int) (s' : ByteArray) (hn : In64 n) (hn' : In64 n') : PCall Tryz.prog 81 [.int .i64 op, .agg [.int .i64 k, .int .i64 n, .str s], .agg [.int .i64 k', .int .i64 n', .str s']] fun r => r = [(reckon op ⟨k, n, s⟩ ⟨k', n', s'⟩).enc] := by
  have c1 := clean_l k n s
  have c2 := clean_l k' n' s'
  rw [← reckon_clean]
  have i1 := clean_in (v := ⟨k, n, s⟩) hn
  have i2 := clean_in (v := ⟨k', n', s'⟩) hn'
  obtain ⟨u, hu⟩ : ∃ u, clean ⟨k, n, s⟩ = u := ⟨_, rfl⟩
  obtain ⟨v, hv⟩ : ∃ u, clean ⟨k', n', s'⟩ = u := ⟨_, rfl⟩
  rw [hu] at c1 i1 ⊢
  rw [hv] at c2 i2 ⊢
  clear hu hv hn hn'
  obtain ⟨uk, x, us⟩ := u
  obtain ⟨vk, y, vs⟩ := v
  simp only at i1 i2
  simp only [Val.enc] at c1 c2
  have lx := uabs4 i1
  have ly := uabs4 i2
  have o1 := longOf_c x i1
  have o2 := longOf_c y i2
  have pa := plus_c x y (by omega) (by omega)
  have ps := plus_c x (-y) (by omega) (by have e : uabs (-y) = uabs y := by unfold uabs; split <;> split <;> omega
                                          rw [e]; omega)
  have pm := times_c' x y (by omega) (by omega)
  have va := value_c (x + y) (by
    have := uabs_add x y
    have := uabs_small (a := x) (b := uabs y) (c := x + y) i1 this (by have := uabs_le i2; omega)
    omega)
  have vs' := value_c (x + -y) (by
    have := uabs_add x (-y)
    have e : uabs (-y) = uabs y := by unfold uabs; split <;> split <;> omega
    rw [e] at this
    have := uabs_small (a := x) (b := uabs y) (c := x + -y) i1 this (by have := uabs_le i2; omega)
    omega)
  have vm := value_c (x * y) (by
    have e : uabs (x * y) = uabs x * uabs y := by
      have := sgn_mul x y
      rw [← this]; exact sgn_abs (Int.mul_nonneg (uabs_nn x) (uabs_nn y))
    rw [e]
    have := dig_mul (uabs_nn x) (uabs_nn y)
    omega)
  have vq := value_c (x.tdiv y) (by have := uabs_tdiv (y := y) i1; omega)
  have vr := value_c (x.tmod y) (by have := uabs4 (tmod_range (y := y) i1); omega)
  have tn : PCall Tryz.prog 104 [.agg [.bool (!decide (y < 0)), .sl (longD y)]] fun r => r = [.agg (longZ (-y))] := by
    have := trim_c (!decide (y < 0)) (dig (uabs y)) (okD_dig _) (longD y) rfl (by omega)
    rw [lval_dig' (uabs_nn y)] at this
    have e : sgn (!decide (y < 0)) (uabs y) = -y := by
      unfold sgn uabs
      by_cases g : y < 0 <;> simp [g]
    rw [e] at this; exact this
  have dv : decide (y = 0) = false → PCall Tryz.prog 106 [.agg (longZ x), .agg (longZ y)] fun r => r = [.agg (longZ (x.tdiv y)), .agg (longZ (x.tmod y))] := fun h => divided_c x y (of_decide_eq_false h) (by omega) (by omega)
  -- the answers
  have rz : (!decide (uk = 1)) = true ∨ (!decide (vk = 1)) = true → reckon op ⟨uk, x, us⟩ ⟨vk, y, vs⟩ = Val.zero := by
    intro h; unfold reckon; rw [if_neg]
    rintro ⟨a, b⟩
    simp only at a b
    simp [a, b] at h
  have rr : (!decide (uk = 1)) = false → (!decide (vk = 1)) = false → reckon op ⟨uk, x, us⟩ ⟨vk, y, vs⟩ = optNum (reckN op x y) := by
    intro a b; unfold reckon; rw [if_pos]
    simpa using And.intro a b
  have r7 : op = 7 → optNum (in64 (x + y)) = optNum (reckN op x y) := by rintro rfl; rfl
  have r8 : op = 8 → optNum (in64 (x + -y)) = optNum (reckN op x y) := by rintro rfl; rfl
  have r9 : op = 9 → optNum (in64 (x * y)) = optNum (reckN op x y) := by rintro rfl; rfl
  have r10 : op = 10 → ¬ y = 0 → optNum (in64 (x.tdiv y)) = optNum (reckN op x y) := by
    rintro rfl h; unfold reckN; simp [h]
  have r11 : op = 11 → ¬ y = 0 → optNum (in64 (x.tmod y)) = optNum (reckN op x y) := by
    rintro rfl h
    have e : in64 (x.tmod y) = some (x.tmod y) := by unfold in64; rw [if_pos (tmod_range i1)]
    unfold reckN; simp [h, e]
  have r0 : op = 10 ∨ op = 11 → y = 0 → Val.zero = optNum (reckN op x y) := by
    rintro (rfl | rfl) h <;> unfold reckN <;> simp [h, optNum]
  have rn : ¬ op = 7 → ¬ op = 8 → ¬ op = 9 → ¬ op = 10 → ¬ op = 11 → Val.zero = optNum (reckN op x y) := by
    intro a b c d e; unfold reckN; simp [a, b, c, d, e, optNum]
  -- shapes
  unfold longZ at o1 o2 pa ps pm va vs' vm vq vr tn dv
  generalize longD x = X at *
  generalize longD y = Y at *
  generalize longD (x + y) = A at *
  generalize longD (x + -y) = S at *
  generalize longD (-y) = Y' at *
  generalize longD (x * y) = M at *
  generalize longD (x.tdiv y) = D at *
  generalize longD (x.tmod y) = E at *
  generalize decide (x < 0) = bx at *
  generalize decide (y < 0) = by' at *
  generalize decide (x + y < 0) = ba at *
  generalize decide (x + -y < 0) = bs at *
  generalize decide (-y < 0) = bn at *
  generalize decide (x * y < 0) = bm at *
  generalize decide (x.tdiv y < 0) = bd at *
  generalize decide (x.tmod y < 0) = be at *
  have tn' : ∀ z : Bool, (!by') = z → PCall Tryz.prog 104 [.agg [.bool z, .sl Y]] fun r => r = [.agg [.bool bn, .sl Y']] := by rintro z rfl; exact tn
  clear tn lx ly i1 i2
  refine PCall.x (nt := 74) (res := [.cell 6 23]) mixed tt_ok [] Tryz.func81 rfl rfl rfl c81 (Nat.le_of_ble_eq_true rfl) ?_
  intro cp cc lp Q' hcp hcc hlp hQ
  repeat' (first
    | (with_reducible refine Nm.mk ?_; intro z hz)
    | (with_reducible refine IfB.mk ?_ ?_ <;> (intro h; cases h))
    | (with_reducible refine Two.l ?_; refine Asm.mk ?_ ?_; focus (decide +kernel))
    | (with_reducible refine Two.r ?_)
    | (with_reducible refine Asm.mk ?_ ?_; focus (first | kernel_rfl | decide))
    | (with_reducible refine isCP hcp ?_; first | (refine xP hcp (c1) ?_; skip) | (refine xP hcp (c2) ?_; skip) | (refine vP hcp (none_l) ?_; intro v hv) | (refine xP hcp (o1) ?_; skip) | (refine xP hcp (o2) ?_; skip) | (refine xP hcp (tn' _ (by assumption)) ?_; skip) | (refine xP hcp (pa) ?_; skip) | (refine xP hcp (ps) ?_; skip) | (refine xP hcp (pm) ?_; skip) | (refine vP hcp (va) ?_; intro v hv) | (refine vP hcp (vs') ?_; intro v hv) | (refine vP hcp (vm) ?_; intro v hv) | (refine xP hcp (dv (by assumption)) ?_; skip) | (refine vP hcp (vq) ?_; intro v hv) | (refine vP hcp (vr) ?_; intro v hv))
    | (with_reducible refine isCC hcc ?_; first | (refine xA hcc (c1) rfl ?_; skip) | (refine xA hcc (c2) rfl ?_; skip) | (refine vA hcc (none_l) rfl ?_; intro v hv) | (refine xA hcc (o1) rfl ?_; skip) | (refine xA hcc (o2) rfl ?_; skip) | (refine xA hcc (tn' _ (by assumption)) rfl ?_; skip) | (refine xA hcc (pa) rfl ?_; skip) | (refine xA hcc (ps) rfl ?_; skip) | (refine xA hcc (pm) rfl ?_; skip) | (refine vA hcc (va) rfl ?_; intro v hv) | (refine vA hcc (vs') rfl ?_; intro v hv) | (refine vA hcc (vm) rfl ?_; intro v hv) | (refine xA hcc (dv (by assumption)) rfl ?_; skip) | (refine vA hcc (vq) rfl ?_; intro v hv) | (refine vA hcc (vr) rfl ?_; intro v hv))
    | (with_reducible refine Asm.mk2 ?_ ?_)
    | ((fail_if_success (with_reducible first | refine hQ _ ?_ | refine Side.mk ?_ | refine isCP hcp ?_ | refine isCC hcc ?_ | refine isLP hlp ?_ | refine Ix.mk ?_ | refine SIx.mk ?_ | refine SEx.mk ?_ | refine EIx.mk ?_ | refine RIx.mk ?_ | show False | refine hR ?_ _ ?_ ?_ ?_ ?_ ?_ | refine hR2 ?_ _ ?_ ?_ ?_ ?_ ?_)); cbv))
  all_goals (refine hQ _ ?_; clear hQ hcp hcc hlp c1 c2 o1 o2 pa ps pm va vs' vm dv vq vr tn')
  all_goals first
    | (rw [rz (by first | exact .inl (by assumption) | exact .inr (by assumption))]; rw [hv]; rfl)
    | (rw [rr (by assumption) (by assumption)]
       first
         | (have a : op = 7 := of_decide_eq_true (by assumption)
            rw [← r7 a]; rw [hv]; rfl)
         | (have a : op = 8 := of_decide_eq_true (by assumption)
            rw [← r8 a]; rw [hv]; rfl)
         | (have a : op = 9 := of_decide_eq_true (by assumption)
            rw [← r9 a]; rw [hv]; rfl)
         | (have a : op = 10 ∨ op = 11 := by first | exact .inl (of_decide_eq_true (by assumption)) | exact .inr (of_decide_eq_true (by assumption))
            have b : y = 0 := of_decide_eq_true (by assumption)
            rw [← r0 a b]; rw [hv]; rfl)
         | (have a : op = 10 := of_decide_eq_true (by assumption)
            have b : ¬ y = 0 := of_decide_eq_false (by assumption)
            rw [← r10 a b]; rw [hv]; rfl)
         | (have a : op = 11 := of_decide_eq_true (by assumption)
            have b : ¬ y = 0 := of_decide_eq_false (by assumption)
            rw [← r11 a b]; rw [hv]; rfl)
         | (rw [← rn (of_decide_eq_false (by assumption)) (of_decide_eq_false (by assumption)) (of_decide_eq_false (by assumption)) (of_decide_eq_false (by assumption)) (of_decide_eq_false (by assumption))]; rw [hv]; rfl)
         | exact absurd (of_decide_eq_true (show decide (op = 10) = true by assumption)) (of_decide_eq_false (by assumption)))
end Go.Proofs.YtnhmnfokbinplaaGreat

namespace Go.Proofs.YtnhmnfokbinplaaGreat
open Go Go.RowKit
set_option maxRecDepth 100000
set_option linter.unusedSimpArgs false
set_option linter.unusedVariables false

def NullRC (cs : List Int) (C : List (List PV)) (e : Ex) : Prop := PCall Tryz.prog 93 [.agg e.cells, .sl C] fun r => r = [.bool (nullM cs e)]
set_option maxHeartbeats 2000000 in
theorem rnull1_c (cs : List Int) (C : List (List PV)) (hC : cs.map i64c = C) (hcl : cs.length ≤ 140737488355328) (op m vk vn : Int) (vs : ByteArray) (ar : List Ex) (es : List (List PV)) (hes : ar.map Ex.cells = es) (hs : wideN ar.length) (IH : ∀ x, x ∈ ar → NullRC cs C x) :
    PCall Tryz.prog 93 [.agg [.int .i64 op, .int .i64 m, .int .i64 vk, .int .i64 vn, .str vs, .sl es], .sl C] fun r => r = [.bool (nullM cs (.mk op m ⟨vk, vn, vs⟩ ar))] := by
  have hel : es.length = ar.length := by rw [← hes]; simp
  have hCl : C.length = cs.length := by rw [← hC]; simp
  unfold wideN at hs
  obtain ⟨q, hq⟩ : ∃ q, nullM cs (.mk op m ⟨vk, vn, vs⟩ ar) = q := ⟨_, rfl⟩
  rw [hq]
  rw [nullM, nullL_any] at hq
  have f1 : decide (op = 1) = true → cs.contains m = q := fun h => by rw [if_pos (of_decide_eq_true h)] at hq; exact hq
  have f2 : decide (op = 1) = false → decide (op = 2) = true → decide ((clean ⟨vk, vn, vs⟩).k = 0) = q := fun h h2 => by rw [if_neg (of_decide_eq_false h), if_pos (of_decide_eq_true h2)] at hq; exact hq
  have f3 : decide (op = 1) = false → decide (op = 2) = false → (op = 5 ∨ op = 19 ∨ op = 20 ∨ op = 21) → q = false := fun h h2 h3 => by rw [if_neg (of_decide_eq_false h), if_neg (of_decide_eq_false h2), if_pos h3] at hq; exact hq.symm
  have f4 : decide (op = 1) = false → decide (op = 2) = false → decide (op = 5) = false → decide (op = 19) = false → decide (op = 20) = false → decide (op = 21) = false → ar.any (nullM cs) = q := fun h h2 h3 h4 h5 h6 => by
    have g3 := of_decide_eq_false h3
    have g4 := of_decide_eq_false h4
    have g5 := of_decide_eq_false h5
    have g6 := of_decide_eq_false h6
    rw [if_neg (of_decide_eq_false h), if_neg (of_decide_eq_false h2), if_neg (by omega)] at hq; exact hq
  clear hq
  have hcl0 := rclean_c vk vn vs
  refine PCall.x (nt := 63) (res := [.tmp 4]) mixed tt_ok [] Tryz.func93 rfl rfl rfl c93 (Nat.le_of_ble_eq_true rfl) ?_
  intro cp cc lp Q' hcp hcc hlp hQ
  repeat' (first
    | (with_reducible refine Nm.mk ?_; intro z hz)
    | (with_reducible refine IfB.mk ?_ ?_ <;> (intro h; cases h))
    | (with_reducible refine Two.l ?_; refine Asm.mk ?_ ?_; focus (decide +kernel))
    | (with_reducible refine Two.r ?_)
    | (with_reducible refine Asm.mk ?_ ?_; focus (first | kernel_rfl | decide))
    | (with_reducible refine isCP hcp ?_; first | (refine vP hcp (hcl0) ?_; intro v hv))
    | (with_reducible refine isCC hcc ?_; first | (refine vA hcc (hcl0) rfl ?_; intro v hv))
    | (with_reducible refine Asm.mk2 ?_ ?_)
    | ((fail_if_success (with_reducible first | refine hQ _ ?_ | refine Side.mk ?_ | refine isCP hcp ?_ | refine isCC hcc ?_ | refine isLP hlp ?_ | refine Ix.mk ?_ | refine SIx.mk ?_ | refine SEx.mk ?_ | refine EIx.mk ?_ | refine RIx.mk ?_ | show False | refine hR ?_ _ ?_ ?_ ?_ ?_ ?_ | refine hR2 ?_ _ ?_ ?_ ?_ ?_ ?_)); cbv))
  · simp only [nc] at hz
    simp only [nc'] at hz
    have hzl := lenZ (n := cs.length) hCl hz
    clear hz
    generalize z = zl at *
    have g1 := f1 (by assumption)
    refine loopK (ι := Int) mixed tt_ok hcp hcc hlp [1, 2, 13, 14] (fun i => [(15, .p (.int .i64 i))]) (fun i => Rng cs.length zl i ∧ (cs.take i.toNat).contains m = false) (fun i => (zl - i).toNat) 0 (fun _ => rfl) ⟨Rng.start hzl (by omega), rfl⟩ ⟨rfl, trivial⟩ ?_
    rintro R i ⟨rg, hno⟩ hR
    repeat' (first
      | (with_reducible refine Nm.mk ?_; intro z hz)
      | (with_reducible refine IfB.mk ?_ ?_ <;> (intro h; cases h))
      | (with_reducible refine Two.l ?_; refine Asm.mk ?_ ?_; focus (decide +kernel))
      | (with_reducible refine Two.r ?_)
      | (with_reducible refine Asm.mk ?_ ?_; focus kernel_rfl)
      | (with_reducible refine Ix.map hC i64c_len (by decide) rg.lo (rg.lt (by assumption)) ?_; intro y hy)
      | (with_reducible refine Asm.mk2 ?_ ?_)
      | ((fail_if_success (with_reducible first | refine hQ _ ?_ | refine Side.mk ?_ | refine isCP hcp ?_ | refine isCC hcc ?_ | refine isLP hlp ?_ | refine Ix.mk ?_ | refine SIx.mk ?_ | refine SEx.mk ?_ | refine EIx.mk ?_ | refine RIx.mk ?_ | show False | refine hR ?_ _ ?_ ?_ ?_ ?_ ?_ | refine hR2 ?_ _ ?_ ?_ ?_ ?_ ?_)); cbv))
    · have hym : y = m := of_decide_eq_true hz
      refine hQ _ ?_
      rw [← g1, ← hym]
      have := List.mem_of_getElem? hy
      simp [List.contains_iff_mem, this]
    · have hlt : decide (i < zl) = true := by assumption
      rw [rg.wrap hlt] at hz
      rename_i hym
      have hym2 : ¬ y = m := of_decide_eq_false hym
      refine hR (i + 1) _ ⟨rg.next hlt, ?_⟩ (rg.less hlt) ⟨hz ▸ rfl, trivial⟩ ⟨rfl, rfl, rfl, rfl, trivial⟩ rfl
      rw [rg.take hy]
      rw [Bool.eq_false_iff] at hno ⊢
      intro h
      rw [List.contains_iff_mem, List.mem_append] at h
      rcases h with h | h
      · exact hno (by rw [List.contains_iff_mem]; exact h)
      · simp at h; exact hym2 h.symm
    · refine hQ _ ?_
      rw [rg.take_ rfl (by assumption)] at hno
      rw [← g1, hno]
  · refine hQ _ ?_
    rw [← f2 (by assumption) (by assumption), hv, hz]
  · refine hQ _ ?_
    rw [f3 (by assumption) (by assumption) (.inl (of_decide_eq_true hz))]
  · refine hQ _ ?_
    rw [f3 (by assumption) (by assumption) (.inr (.inl (of_decide_eq_true hz)))]
  · refine hQ _ ?_
    rw [f3 (by assumption) (by assumption) (.inr (.inr (.inl (of_decide_eq_true hz))))]
  · refine hQ _ ?_
    rw [f3 (by assumption) (by assumption) (.inr (.inr (.inr (of_decide_eq_true hz))))]
  · simp only [nc] at hz
    simp only [nc'] at hz
    have hzl := lenZ (n := ar.length) hel hz
    clear hz
    generalize z = zl at *
    have g4 := f4 (by assumption) (by assumption) (by assumption) (by assumption) (by assumption) (by assumption)
    refine loopK (ι := Int) mixed tt_ok hcp hcc hlp [1, 2, 53, 54] (fun i => [(55, .p (.int .i64 i))]) (fun i => Rng ar.length zl i ∧ (ar.take i.toNat).any (nullM cs) = false) (fun i => (zl - i).toNat) 0 (fun _ => rfl) ⟨Rng.start hzl (by omega), rfl⟩ ⟨rfl, trivial⟩ ?_
    rintro R i ⟨rg, hno⟩ hR
    have hpc : ∀ (op' m' vk' vn' : Int) (vs' : ByteArray) (ar' : List Ex) (es' : List (List PV)), ar[i.toNat]? = some (.mk op' m' ⟨vk', vn', vs'⟩ ar') → ar'.map Ex.cells = es' →
        PCall Tryz.prog 93 [.agg [.int .i64 op', .int .i64 m', .int .i64 vk', .int .i64 vn', .str vs', .sl es'], .sl C] fun r => r = [.bool (nullM cs (.mk op' m' ⟨vk', vn', vs'⟩ ar'))] := by
      intro op' m' vk' vn' vs' ar' es' hx he
      have := IH _ (List.mem_of_getElem? hx)
      rw [NullRC, cells_mk, he] at this
      exact this
    repeat' (first
      | (with_reducible refine Nm.mk ?_; intro z hz)
      | (with_reducible refine IfB.mk ?_ ?_ <;> (intro h; cases h))
      | (with_reducible refine Two.l ?_; refine Asm.mk ?_ ?_; focus (decide +kernel))
      | (with_reducible refine Two.r ?_)
      | (with_reducible refine Asm.mk ?_ ?_; focus kernel_rfl)
      | (with_reducible refine isCP hcp ?_; first | (refine bP hcp (hpc _ _ _ _ _ _ _ (by assumption) (by assumption)) ?_; intro z hz))
      | (with_reducible refine isCC hcc ?_; first | (refine bA hcc (hpc _ _ _ _ _ _ _ (by assumption) (by assumption)) rfl ?_; intro z hz))
      | (with_reducible refine Ix.ex hes rg.lo (rg.lt (by assumption)) ?_; intro op' m' vk' vn' vs' ar' es' hx hes')
      | (with_reducible refine Asm.mk2 ?_ ?_)
      | ((fail_if_success (with_reducible first | refine hQ _ ?_ | refine Side.mk ?_ | refine isCP hcp ?_ | refine isCC hcc ?_ | refine isLP hlp ?_ | refine Ix.mk ?_ | refine SIx.mk ?_ | refine SEx.mk ?_ | refine EIx.mk ?_ | refine RIx.mk ?_ | show False | refine hR ?_ _ ?_ ?_ ?_ ?_ ?_ | refine hR2 ?_ _ ?_ ?_ ?_ ?_ ?_)); cbv))
    all_goals first
      | (have hb : nullM cs (.mk op' m' ⟨vk', vn', vs'⟩ ar') = true := by first | assumption | (rw [← hz]; assumption)
         refine hQ _ ?_
         rw [← g4]
         have := List.mem_of_getElem? hx
         rw [show ar.any (nullM cs) = true from List.any_eq_true.2 ⟨_, this, hb⟩])
      | (have hlt : decide (i < zl) = true := by assumption
         have hb : nullM cs (.mk op' m' ⟨vk', vn', vs'⟩ ar') = false := by assumption
         rw [rg.wrap hlt] at hz
         refine hR (i + 1) _ ⟨rg.next hlt, ?_⟩ (rg.less hlt) ⟨hz ▸ rfl, trivial⟩ ⟨rfl, rfl, rfl, rfl, trivial⟩ rfl
         rw [rg.take hx, List.any_append, hno]
         simp [hb])
      | (refine hQ _ ?_
         rw [rg.take_ rfl (by assumption)] at hno
         rw [← g4, hno])
      | skip
theorem rnull_all (cs : List Int) (C : List (List PV)) (hC : cs.map i64c = C) (hcl : cs.length ≤ 140737488355328) : ∀ (k : Nat) (e : Ex), e.sz ≤ k → e.wide → NullRC cs C e
  | 0, .mk op m v ar, h, _ => by simp [Ex.sz] at h
  | k + 1, .mk op m ⟨vk, vn, vs⟩ ar, h, hw => by
    rw [NullRC, cells_mk]
    refine rnull1_c cs C hC hcl op m vk vn vs ar _ rfl hw.1 fun x hx => rnull_all cs C hC hcl k x ?_ (wide_mem hw.2 hx)
    have := sz_mem hx
    simp only [Ex.sz] at h; omega
end Go.Proofs.YtnhmnfokbinplaaGreat

namespace Go.Proofs.YtnhmnfokbinplaaGreat
open Go Go.RowKit
set_option maxRecDepth 100000
set_option linter.unusedSimpArgs false
set_option linter.unusedVariables false

theorem Ix.el {L : List (List PV)} {es : Nat} {i : Int} {K : List PV → Prop} (n : Nat) {e : List PV} (hi : 0 ≤ i) (hn : i.toNat = n) (h : L[n]? = some e) (he : e.length = es) (hes : es ≠ 0) (k : K e) : Ix es L i K := ⟨e, hi, by rw [hn]; exact h, he, hes, k⟩

abbrev oneW (f L : PV) : PV := .fn 63 [.ip [f], .ip [L]]
abbrev twoW (f L : PV) : PV := .fn 65 [.ip [f], .ip [L]]
abbrev byW (f : PV) (cells : List PV) (L : PV) : PV := twoW (.fn 67 [.ip [f], .ip cells]) L

/-- one, two, by: what they hand back. -/
theorem one_c (k : Nat) (caps : List PV) (L : List (List PV)) : PCall Tryz.prog 62 [.fn k caps, .ip [.sl L]] fun r => r = [oneW (.fn k caps) (.sl L)] := by
  refine PCall.x (nt := 5) (res := [.tmp 3]) mixed tt_ok [] Tryz.func62 rfl rfl rfl c62 (Nat.le_of_ble_eq_true rfl) ?_
  intro cp cc lp Q' hcp hcc hlp hQ
  repeat' (first
    | (with_reducible refine Nm.mk ?_; intro z hz)
    | (with_reducible refine IfB.mk ?_ ?_ <;> (intro h; cases h))
    | (with_reducible refine Two.l ?_; refine Asm.mk ?_ ?_; focus (decide +kernel))
    | (with_reducible refine Two.r ?_)
    | (with_reducible refine Asm.mk ?_ ?_; focus (first | kernel_rfl | decide))
    | (with_reducible refine Asm.mk2 ?_ ?_)
    | ((fail_if_success (with_reducible first | refine hQ _ ?_ | refine Side.mk ?_ | refine isCP hcp ?_ | refine isCC hcc ?_ | refine isLP hlp ?_ | refine Ix.mk ?_ | refine SIx.mk ?_ | refine SEx.mk ?_ | refine EIx.mk ?_ | refine RIx.mk ?_ | show False | refine hR ?_ _ ?_ ?_ ?_ ?_ ?_ | refine hR2 ?_ _ ?_ ?_ ?_ ?_ ?_)); cbv))
  all_goals (refine hQ _ ?_; clear hQ hcp hcc hlp; subst_vars; simp_all [oneW])
theorem two_c (k : Nat) (caps : List PV) (L : List (List PV)) : PCall Tryz.prog 64 [.fn k caps, .ip [.sl L]] fun r => r = [twoW (.fn k caps) (.sl L)] := by
  refine PCall.x (nt := 5) (res := [.tmp 3]) mixed tt_ok [] Tryz.func64 rfl rfl rfl c64 (Nat.le_of_ble_eq_true rfl) ?_
  intro cp cc lp Q' hcp hcc hlp hQ
  repeat' (first
    | (with_reducible refine Nm.mk ?_; intro z hz)
    | (with_reducible refine IfB.mk ?_ ?_ <;> (intro h; cases h))
    | (with_reducible refine Two.l ?_; refine Asm.mk ?_ ?_; focus (decide +kernel))
    | (with_reducible refine Two.r ?_)
    | (with_reducible refine Asm.mk ?_ ?_; focus (first | kernel_rfl | decide))
    | (with_reducible refine Asm.mk2 ?_ ?_)
    | ((fail_if_success (with_reducible first | refine hQ _ ?_ | refine Side.mk ?_ | refine isCP hcp ?_ | refine isCC hcc ?_ | refine isLP hlp ?_ | refine Ix.mk ?_ | refine SIx.mk ?_ | refine SEx.mk ?_ | refine EIx.mk ?_ | refine RIx.mk ?_ | show False | refine hR ?_ _ ?_ ?_ ?_ ?_ ?_ | refine hR2 ?_ _ ?_ ?_ ?_ ?_ ?_)); cbv))
  all_goals (refine hQ _ ?_; clear hQ hcp hcc hlp; subst_vars; simp_all [twoW])
theorem by_c (k : Nat) (caps : List PV) (cells : List PV) (L : List (List PV)) : PCall Tryz.prog 66 [.fn k caps, .ip [.fn 64 [.ip [.sl L]]], .ip cells] fun r => r = [byW (.fn k caps) cells (.sl L)] := by
  refine PCall.x (nt := 8) (res := [.tmp 4]) mixed tt_ok [(64, [0])] Tryz.func66 rfl rfl rfl c66 (Nat.le_of_ble_eq_true rfl) ?_
  intro cp cc lp Q' hcp hcc hlp hQ
  repeat' (first
    | (with_reducible refine Nm.mk ?_; intro z hz)
    | (with_reducible refine IfB.mk ?_ ?_ <;> (intro h; cases h))
    | (with_reducible refine Two.l ?_; refine Asm.mk ?_ ?_; focus (decide +kernel))
    | (with_reducible refine Two.r ?_)
    | (with_reducible refine Asm.mk ?_ ?_; focus (first | kernel_rfl | decide))
    | (with_reducible refine isCP hcp ?_; first | (refine xP hcp (two_c _ _ _) ?_; skip))
    | (with_reducible refine isCC hcc ?_; first | (refine xA hcc (two_c _ _ _) rfl ?_; skip))
    | (with_reducible refine Asm.mk2 ?_ ?_)
    | ((fail_if_success (with_reducible first | refine hQ _ ?_ | refine Side.mk ?_ | refine isCP hcp ?_ | refine isCC hcc ?_ | refine isLP hlp ?_ | refine Ix.mk ?_ | refine SIx.mk ?_ | refine SEx.mk ?_ | refine EIx.mk ?_ | refine RIx.mk ?_ | show False | refine hR ?_ _ ?_ ?_ ?_ ?_ ?_ | refine hR2 ?_ _ ?_ ?_ ?_ ?_ ?_)); cbv))
  exact hQ _ rfl

/-- What a worker of one part, of two, does. -/
theorem run1_c (kf : Nat) (cf : List PV) (k0 : Nat) (c0 : List PV) (kc : Nat) (cc0 : List PV) (L : List (List PV)) (h0 : L[0]? = some [.fn k0 c0]) (a b : Val)
    (ha : PCall Tryz.prog k0 (.fn kc cc0 :: c0) fun r => r = [a.enc]) (hb : PCall Tryz.prog kf (a.enc :: cf) fun r => r = [b.enc]) :
    PCall Tryz.prog 63 [.fn kc cc0, .ip [.fn kf cf], .ip [.sl L]] fun r => r = [b.enc] := by
  have hb' : ∀ v : Val, a = v → PCall Tryz.prog kf (.agg [.int .i64 v.k, .int .i64 v.n, .str v.s] :: cf) fun r => r = [b.enc] := by rintro v rfl; exact hb
  refine PCall.x (nt := 12) (res := [.cell 4 23]) mixed tt_ok [] Tryz.func63 rfl rfl rfl c63 (Nat.le_of_ble_eq_true rfl) ?_
  intro cp cc lp Q' hcp hcc hlp hQ
  repeat' (first
    | (with_reducible refine Nm.mk ?_; intro z hz)
    | (with_reducible refine IfB.mk ?_ ?_ <;> (intro h; cases h))
    | (with_reducible refine Two.l ?_; refine Asm.mk ?_ ?_; focus (decide +kernel))
    | (with_reducible refine Two.r ?_)
    | (with_reducible refine Asm.mk ?_ ?_; focus kernel_rfl)
    | (with_reducible refine isCP hcp ?_; first | (refine vP hcp (ha) ?_; intro v hv) | (refine vP hcp (hb' _ (by assumption)) ?_; intro v hv))
    | (with_reducible refine isCC hcc ?_; first | (refine vA hcc (ha) rfl ?_; intro v hv) | (refine vA hcc (hb' _ (by assumption)) rfl ?_; intro v hv))
    | (with_reducible refine Ix.el 0 (by decide) rfl h0 rfl (by decide) ?_)
    | (with_reducible refine Asm.mk2 ?_ ?_)
    | ((fail_if_success (with_reducible first | refine hQ _ ?_ | refine Side.mk ?_ | refine isCP hcp ?_ | refine isCC hcc ?_ | refine isLP hlp ?_ | refine Ix.mk ?_ | refine SIx.mk ?_ | refine SEx.mk ?_ | refine EIx.mk ?_ | refine RIx.mk ?_ | show False | refine hR ?_ _ ?_ ?_ ?_ ?_ ?_ | refine hR2 ?_ _ ?_ ?_ ?_ ?_ ?_)); cbv))
  all_goals (refine hQ _ ?_; clear hQ hcp hcc hlp ha hb hb'; subst_vars; rfl)
theorem run2_c (kf : Nat) (cf : List PV) (k0 : Nat) (c0 : List PV) (k1 : Nat) (c1 : List PV) (kc : Nat) (cc0 : List PV) (L : List (List PV)) (h0 : L[0]? = some [.fn k0 c0]) (h1 : L[1]? = some [.fn k1 c1]) (a b c : Val)
    (ha : PCall Tryz.prog k0 (.fn kc cc0 :: c0) fun r => r = [a.enc]) (hb : PCall Tryz.prog k1 (.fn kc cc0 :: c1) fun r => r = [b.enc]) (hc : PCall Tryz.prog kf (a.enc :: b.enc :: cf) fun r => r = [c.enc]) :
    PCall Tryz.prog 65 [.fn kc cc0, .ip [.fn kf cf], .ip [.sl L]] fun r => r = [c.enc] := by
  have hc' : ∀ v w : Val, a = v → b = w → PCall Tryz.prog kf (.agg [.int .i64 v.k, .int .i64 v.n, .str v.s] :: .agg [.int .i64 w.k, .int .i64 w.n, .str w.s] :: cf) fun r => r = [c.enc] := by rintro v w rfl rfl; exact hc
  refine PCall.x (nt := 17) (res := [.cell 4 23]) mixed tt_ok [] Tryz.func65 rfl rfl rfl c65 (Nat.le_of_ble_eq_true rfl) ?_
  intro cp cc lp Q' hcp hcc hlp hQ
  repeat' (first
    | (with_reducible refine Nm.mk ?_; intro z hz)
    | (with_reducible refine IfB.mk ?_ ?_ <;> (intro h; cases h))
    | (with_reducible refine Two.l ?_; refine Asm.mk ?_ ?_; focus (decide +kernel))
    | (with_reducible refine Two.r ?_)
    | (with_reducible refine Asm.mk ?_ ?_; focus kernel_rfl)
    | (with_reducible refine isCP hcp ?_; first | (refine vP hcp (ha) ?_; intro v hv) | (refine vP hcp (hb) ?_; intro v hv) | (refine vP hcp (hc' _ _ (by assumption) (by assumption)) ?_; intro v hv))
    | (with_reducible refine isCC hcc ?_; first | (refine vA hcc (ha) rfl ?_; intro v hv) | (refine vA hcc (hb) rfl ?_; intro v hv) | (refine vA hcc (hc' _ _ (by assumption) (by assumption)) rfl ?_; intro v hv))
    | (with_reducible refine Ix.el 0 (by decide) rfl h0 rfl (by decide) ?_)
    | (with_reducible refine Ix.el 1 (by decide) rfl h1 rfl (by decide) ?_)
    | (with_reducible refine Asm.mk2 ?_ ?_)
    | ((fail_if_success (with_reducible first | refine hQ _ ?_ | refine Side.mk ?_ | refine isCP hcp ?_ | refine isCC hcc ?_ | refine isLP hlp ?_ | refine Ix.mk ?_ | refine SIx.mk ?_ | refine SEx.mk ?_ | refine EIx.mk ?_ | refine RIx.mk ?_ | show False | refine hR ?_ _ ?_ ?_ ?_ ?_ ?_ | refine hR2 ?_ _ ?_ ?_ ?_ ?_ ?_)); cbv))
  all_goals (refine hQ _ ?_; clear hQ hcp hcc hlp ha hb hc hc'; subst_vars; rfl)
theorem runBy_c (kf : Nat) (cf : List PV) (op n k m : Int) (s : ByteArray) (es : List (List PV)) (a b c : Val) (hc : PCall Tryz.prog kf (.int .i64 op :: a.enc :: b.enc :: cf) fun r => r = [c.enc]) :
    PCall Tryz.prog 67 [a.enc, b.enc, .ip [.fn kf cf], .ip [.int .i64 op, .int .i64 n, .int .i64 k, .int .i64 m, .str s, .sl es]] fun r => r = [c.enc] := by
  obtain ⟨ak, an, as'⟩ := a
  obtain ⟨bk', bn, bs⟩ := b
  have hb3 : ∀ {x y z : AV} {p q r : PV} {cs : List PV}, pureX x = some p → pureX y = some q → pureX z = some r → optL pureX (catX [x, y, z] (mapX .p cs)) = some (p :: q :: r :: cs) := by
    intro x y z p q r cs h1 h2 h3
    show optL pureX (x :: y :: z :: mapX .p cs) = _
    simp only [optL, h1, h2, h3, pure_p]
  simp only [Val.enc] at hc
  refine PCall.x (nt := 13) (res := [.cell 6 23]) mixed tt_ok [] Tryz.func67 rfl rfl rfl c67 (Nat.le_of_ble_eq_true rfl) ?_
  intro cp cc lp Q' hcp hcc hlp hQ
  repeat' (first
    | (with_reducible refine Nm.mk ?_; intro z hz)
    | (with_reducible refine IfB.mk ?_ ?_ <;> (intro h; cases h))
    | (with_reducible refine Two.l ?_; refine Asm.mk ?_ ?_; focus (decide +kernel))
    | (with_reducible refine Two.r ?_)
    | (with_reducible refine Asm.mk ?_ ?_; focus kernel_rfl)
    | (with_reducible refine isCC hcc ?_; refine vA hcc hc (hb3 rfl rfl rfl) ?_; intro v hv)
    | (with_reducible refine Asm.mk2 ?_ ?_)
    | ((fail_if_success (with_reducible first | refine hQ _ ?_ | refine Side.mk ?_ | refine isCP hcp ?_ | refine isCC hcc ?_ | refine isLP hlp ?_ | refine Ix.mk ?_ | refine SIx.mk ?_ | refine SEx.mk ?_ | refine EIx.mk ?_ | refine RIx.mk ?_ | show False | refine hR ?_ _ ?_ ?_ ?_ ?_ ?_ | refine hR2 ?_ _ ?_ ?_ ?_ ?_ ?_)); cbv))
  all_goals (refine hQ _ ?_; clear hQ hcp hcc hlp hc hb3; subst_vars; rfl)
theorem run3_c (k0 : Nat) (c0 : List PV) (k1 : Nat) (c1 : List PV) (k2 : Nat) (c2 : List PV) (kc : Nat) (cc0 : List PV) (L : List (List PV)) (h0 : L[0]? = some [.fn k0 c0]) (h1 : L[1]? = some [.fn k1 c1]) (h2 : L[2]? = some [.fn k2 c2]) (a b c : Val)
    (ha : PCall Tryz.prog k0 (.fn kc cc0 :: c0) fun r => r = [a.enc]) (hb : PCall Tryz.prog k1 (.fn kc cc0 :: c1) fun r => r = [b.enc]) (hc : PCall Tryz.prog k2 (.fn kc cc0 :: c2) fun r => r = [c.enc]) :
    PCall Tryz.prog 78 [.fn kc cc0, .ip [.sl L]] fun r => r = [(if trueV a = true then b else c).enc] := by
  have ht : ∀ v : Val, a = v → PCall Tryz.prog 48 [.agg [.int .i64 v.k, .int .i64 v.n, .str v.s]] fun r => r = [.bool (trueV a)] := by rintro v rfl; exact true_c _ _ _
  refine PCall.x (nt := 20) (res := [.cell 3 23]) mixed tt_ok [] Tryz.func78 rfl rfl rfl c78 (Nat.le_of_ble_eq_true rfl) ?_
  intro cp cc lp Q' hcp hcc hlp hQ
  repeat' (first
    | (with_reducible refine Nm.mk ?_; intro z hz)
    | (with_reducible refine IfB.mk ?_ ?_ <;> (intro h; cases h))
    | (with_reducible refine Two.l ?_; refine Asm.mk ?_ ?_; focus (decide +kernel))
    | (with_reducible refine Two.r ?_)
    | (with_reducible refine Asm.mk ?_ ?_; focus kernel_rfl)
    | (with_reducible refine isCP hcp ?_; first | (refine bP hcp (ht _ (by assumption)) ?_; intro z hz))
    | (with_reducible refine isCC hcc ?_; first | (refine bA hcc (ht _ (by assumption)) rfl ?_; intro z hz))
    | (with_reducible refine Ix.el 0 (by decide) rfl h0 rfl (by decide) ?_)
    | (with_reducible refine Ix.el 1 (by decide) rfl h1 rfl (by decide) ?_)
    | (with_reducible refine Ix.el 2 (by decide) rfl h2 rfl (by decide) ?_)
    | (with_reducible refine isCC hcc ?_; first | (refine vA hcc ha (hb1 rfl) ?_; intro v hv) | (refine vA hcc hb (hb1 rfl) ?_; intro v hv) | (refine vA hcc hc (hb1 rfl) ?_; intro v hv))
    | (with_reducible refine Asm.mk2 ?_ ?_)
    | ((fail_if_success (with_reducible first | refine hQ _ ?_ | refine Side.mk ?_ | refine isCP hcp ?_ | refine isCC hcc ?_ | refine isLP hlp ?_ | refine Ix.mk ?_ | refine SIx.mk ?_ | refine SEx.mk ?_ | refine EIx.mk ?_ | refine RIx.mk ?_ | show False | refine hR ?_ _ ?_ ?_ ?_ ?_ ?_ | refine hR2 ?_ _ ?_ ?_ ?_ ?_ ?_)); cbv))
  all_goals (refine hQ _ ?_; clear hQ hcp hcc hlp ha hb hc ht; simp_all [Val.enc])

/-- The small ones. -/
theorem flagk_c (b : Bool) : PCall Tryz.prog 68 [.bool b] fun r => r = [(flag b).enc] := by
  refine PCall.x (nt := 6) (res := [.cell 2 23]) mixed tt_ok [] Tryz.func68 rfl rfl rfl c68 (Nat.le_of_ble_eq_true rfl) ?_
  intro cp cc lp Q' hcp hcc hlp hQ
  repeat' (first
    | (with_reducible refine Nm.mk ?_; intro z hz)
    | (with_reducible refine IfB.mk ?_ ?_ <;> (intro h; cases h))
    | (with_reducible refine Two.l ?_; refine Asm.mk ?_ ?_; focus (decide +kernel))
    | (with_reducible refine Two.r ?_)
    | (with_reducible refine Asm.mk ?_ ?_; focus (first | kernel_rfl | decide))
    | (with_reducible refine Asm.mk2 ?_ ?_)
    | ((fail_if_success (with_reducible first | refine hQ _ ?_ | refine Side.mk ?_ | refine isCP hcp ?_ | refine isCC hcc ?_ | refine isLP hlp ?_ | refine Ix.mk ?_ | refine SIx.mk ?_ | refine SEx.mk ?_ | refine EIx.mk ?_ | refine RIx.mk ?_ | show False | refine hR ?_ _ ?_ ?_ ?_ ?_ ?_ | refine hR2 ?_ _ ?_ ?_ ?_ ?_ ?_)); cbv))
  all_goals (refine hQ _ ?_; clear hQ hcp hcc hlp; subst_vars; simp_all [flag, num, Val.enc])
theorem colW_c (kc : Nat) (cc0 : List PV) (op n k m : Int) (s : ByteArray) (es : List (List PV)) (a : Val) (ha : PCall Tryz.prog kc (.int .i64 n :: cc0) fun r => r = [a.enc]) :
    PCall Tryz.prog 69 [.fn kc cc0, .ip [.int .i64 op, .int .i64 n, .int .i64 k, .int .i64 m, .str s, .sl es]] fun r => r = [a.enc] := by
  refine PCall.x (nt := 8) (res := [.cell 3 23]) mixed tt_ok [] Tryz.func69 rfl rfl rfl c69 (Nat.le_of_ble_eq_true rfl) ?_
  intro cp cc lp Q' hcp hcc hlp hQ
  repeat' (first
    | (with_reducible refine Nm.mk ?_; intro z hz)
    | (with_reducible refine IfB.mk ?_ ?_ <;> (intro h; cases h))
    | (with_reducible refine Two.l ?_; refine Asm.mk ?_ ?_; focus (decide +kernel))
    | (with_reducible refine Two.r ?_)
    | (with_reducible refine Asm.mk ?_ ?_; focus kernel_rfl)
    | (with_reducible refine isCC hcc ?_; refine vA hcc ha (hb1 rfl) ?_; intro v hv)
    | (with_reducible refine Asm.mk2 ?_ ?_)
    | ((fail_if_success (with_reducible first | refine hQ _ ?_ | refine Side.mk ?_ | refine isCP hcp ?_ | refine isCC hcc ?_ | refine isLP hlp ?_ | refine Ix.mk ?_ | refine SIx.mk ?_ | refine SEx.mk ?_ | refine EIx.mk ?_ | refine RIx.mk ?_ | show False | refine hR ?_ _ ?_ ?_ ?_ ?_ ?_ | refine hR2 ?_ _ ?_ ?_ ?_ ?_ ?_)); cbv))
  all_goals (refine hQ _ ?_; clear hQ hcp hcc hlp ha; subst_vars; rfl)
theorem constW_c (kc : Nat) (cc0 : List PV) (v : Val) : PCall Tryz.prog 70 [.fn kc cc0, .ip v.cells] fun r => r = [v.enc] := by
  obtain ⟨k, n, s⟩ := v
  simp only [Val.cells]
  refine PCall.x (nt := 5) (res := [.cell 3 23]) mixed tt_ok [] Tryz.func70 rfl rfl rfl c70 (Nat.le_of_ble_eq_true rfl) ?_
  intro cp cc lp Q' hcp hcc hlp hQ
  repeat' (first
    | (with_reducible refine Nm.mk ?_; intro z hz)
    | (with_reducible refine IfB.mk ?_ ?_ <;> (intro h; cases h))
    | (with_reducible refine Two.l ?_; refine Asm.mk ?_ ?_; focus (decide +kernel))
    | (with_reducible refine Two.r ?_)
    | (with_reducible refine Asm.mk ?_ ?_; focus (first | kernel_rfl | decide))
    | (with_reducible refine Asm.mk2 ?_ ?_)
    | ((fail_if_success (with_reducible first | refine hQ _ ?_ | refine Side.mk ?_ | refine isCP hcp ?_ | refine isCC hcc ?_ | refine isLP hlp ?_ | refine Ix.mk ?_ | refine SIx.mk ?_ | refine SEx.mk ?_ | refine EIx.mk ?_ | refine RIx.mk ?_ | show False | refine hR ?_ _ ?_ ?_ ?_ ?_ ?_ | refine hR2 ?_ _ ?_ ?_ ?_ ?_ ?_)); cbv))
  all_goals (refine hQ _ ?_; rfl)
theorem negW_c (a : Val) (h : -9223372036854775808 ≤ a.n ∧ a.n ≤ 9223372036854775807) : PCall Tryz.prog 71 [a.enc] fun r => r = [(reckon 8 (num 0) a).enc] := by
  obtain ⟨k, n, s⟩ := a
  have hr := reckon_c 8 1 0 ⟨#[]⟩ k n s (by decide) h
  simp only [Val.enc]
  refine PCall.x (nt := 6) (res := [.cell 2 23]) mixed tt_ok [] Tryz.func71 rfl rfl rfl c71 (Nat.le_of_ble_eq_true rfl) ?_
  intro cp cc lp Q' hcp hcc hlp hQ
  repeat' (first
    | (with_reducible refine Nm.mk ?_; intro z hz)
    | (with_reducible refine IfB.mk ?_ ?_ <;> (intro h; cases h))
    | (with_reducible refine Two.l ?_; refine Asm.mk ?_ ?_; focus (decide +kernel))
    | (with_reducible refine Two.r ?_)
    | (with_reducible refine Asm.mk ?_ ?_; focus (first | kernel_rfl | decide))
    | (with_reducible refine isCP hcp ?_; first | (refine vP hcp (hr) ?_; intro v hv))
    | (with_reducible refine isCC hcc ?_; first | (refine vA hcc (hr) rfl ?_; intro v hv))
    | (with_reducible refine Asm.mk2 ?_ ?_)
    | ((fail_if_success (with_reducible first | refine hQ _ ?_ | refine Side.mk ?_ | refine isCP hcp ?_ | refine isCC hcc ?_ | refine isLP hlp ?_ | refine Ix.mk ?_ | refine SIx.mk ?_ | refine SEx.mk ?_ | refine EIx.mk ?_ | refine RIx.mk ?_ | show False | refine hR ?_ _ ?_ ?_ ?_ ?_ ?_ | refine hR2 ?_ _ ?_ ?_ ?_ ?_ ?_)); cbv))
  all_goals (refine hQ _ ?_; clear hQ hcp hcc hlp hr; subst_vars; rfl)
theorem nullW_c (a : Val) : PCall Tryz.prog 74 [a.enc, .ip [.fn 68 []]] fun r => r = [(flag (decide (a.k = 0))).enc] := by
  obtain ⟨k, n, s⟩ := a
  simp only [Val.enc]
  refine PCall.x (nt := 9) (res := [.cell 3 23]) mixed tt_ok [] Tryz.func74 rfl rfl rfl c74 (Nat.le_of_ble_eq_true rfl) ?_
  intro cp cc lp Q' hcp hcc hlp hQ
  repeat' (first
    | (with_reducible refine Nm.mk ?_; intro z hz)
    | (with_reducible refine IfB.mk ?_ ?_ <;> (intro h; cases h))
    | (with_reducible refine Two.l ?_; refine Asm.mk ?_ ?_; focus (decide +kernel))
    | (with_reducible refine Two.r ?_)
    | (with_reducible refine Asm.mk ?_ ?_; focus (first | kernel_rfl | decide))
    | (with_reducible refine isCP hcp ?_; first | (refine vP hcp (flagk_c _) ?_; intro v hv))
    | (with_reducible refine isCC hcc ?_; first | (refine vA hcc (flagk_c _) rfl ?_; intro v hv))
    | (with_reducible refine Asm.mk2 ?_ ?_)
    | ((fail_if_success (with_reducible first | refine hQ _ ?_ | refine Side.mk ?_ | refine isCP hcp ?_ | refine isCC hcc ?_ | refine isLP hlp ?_ | refine Ix.mk ?_ | refine SIx.mk ?_ | refine SEx.mk ?_ | refine EIx.mk ?_ | refine RIx.mk ?_ | show False | refine hR ?_ _ ?_ ?_ ?_ ?_ ?_ | refine hR2 ?_ _ ?_ ?_ ?_ ?_ ?_)); cbv))
  all_goals (refine hQ _ ?_; clear hQ hcp hcc hlp; subst_vars; rfl)
theorem lenW_c (a : Val) (h : a.s.size ≤ 140737488355328) : PCall Tryz.prog 75 [a.enc] fun r => r = [(vlenV a).enc] := by
  obtain ⟨k, n, s⟩ := a
  simp only [Val.enc]
  refine PCall.x (nt := 11) (res := [.cell 2 23]) mixed tt_ok [] Tryz.func75 rfl rfl rfl c75 (Nat.le_of_ble_eq_true rfl) ?_
  intro cp cc lp Q' hcp hcc hlp hQ
  repeat' (first
    | (with_reducible refine Nm.mk ?_; intro z hz)
    | (with_reducible refine IfB.mk ?_ ?_ <;> (intro h; cases h))
    | (with_reducible refine Two.l ?_; refine Asm.mk ?_ ?_; focus (decide +kernel))
    | (with_reducible refine Two.r ?_)
    | (with_reducible refine Asm.mk ?_ ?_; focus (first | kernel_rfl | decide))
    | (with_reducible refine Asm.mk2 ?_ ?_)
    | ((fail_if_success (with_reducible first | refine hQ _ ?_ | refine Side.mk ?_ | refine isCP hcp ?_ | refine isCC hcc ?_ | refine isLP hlp ?_ | refine Ix.mk ?_ | refine SIx.mk ?_ | refine SEx.mk ?_ | refine EIx.mk ?_ | refine RIx.mk ?_ | show False | refine hR ?_ _ ?_ ?_ ?_ ?_ ?_ | refine hR2 ?_ _ ?_ ?_ ?_ ?_ ?_)); cbv))
  all_goals (refine hQ _ ?_; clear hQ hcp hcc hlp; try simp only [nc] at *
             try simp only [nc'] at *
             simp_all [vlenV, num, Val.zero])
end Go.Proofs.YtnhmnfokbinplaaGreat

namespace Go.Proofs.YtnhmnfokbinplaaGreat
open Go Go.RowKit
set_option maxRecDepth 100000
set_option linter.unusedSimpArgs false
set_option linter.unusedVariables false

def one2 (f L : PV) : Nat × List PV := (63, [.ip [f], .ip [L]])
def two2 (f L : PV) : Nat × List PV := (65, [.ip [f], .ip [L]])
def by2 (f : PV) (cells : List PV) (L : PV) : Nat × List PV := two2 (.fn 67 [.ip [f], .ip cells]) L
def wkOp (op : Int) (cells : List PV) (v : Val) (L : List (List PV)) : Nat × List PV :=
  if op = 1 then (69, [.ip cells]) else if op = 2 then (70, [.ip (clean v).cells])
  else if op = 3 then one2 (.fn 71 []) (.sl L) else if op = 4 then one2 (.fn 73 []) (.sl L) else if op = 5 then one2 (.fn 74 [.ip [.fn 68 []]]) (.sl L) else if op = 6 then one2 (.fn 75 []) (.sl L)
  else if op = 7 ∨ op = 8 ∨ op = 9 ∨ op = 10 ∨ op = 11 then by2 (.fn 72 []) cells (.sl L) else if op = 18 then two2 (.fn 76 []) (.sl L) else if op = 19 ∨ op = 20 then by2 (.fn 77 []) cells (.sl L)
  else if op = 21 then (78, [.ip [.sl L]]) else by2 (.fn 79 []) cells (.sl L)
mutual
def wk : Ex → Nat × List PV
  | .mk op n v ar => wkOp op (Ex.mk op n v ar).cells v (wkL ar)
def wkL : List Ex → List (List PV)
  | [] => []
  | e :: r => [.fn (wk e).1 (wk e).2] :: wkL r
end
def wkc (e : Ex) : List PV := [.fn (wk e).1 (wk e).2]
theorem wkL_eq : ∀ l : List Ex, wkL l = l.map wkc
  | [] => rfl
  | e :: r => by simp [wkL, wkL_eq r, wkc]

theorem okEs_wkc (l : List Ex) : okEs 1 (l.map wkc) = true := by
  simp only [okEs, List.all_map, List.all_eq_true]
  intro e _
  simp [wkc, PV.one]

section
variable {P : Program} {cp : FuncId → List PV → (CR → Prop) → Prop} {cc : FuncId → List AV → List AObj → (AV → List AObj → Prop) → Prop} {f : FuncId} {args : List PV} {aargs : List AV} {H : List AObj}
theorem fnP (hcp : PC1 P = cp) {X : Nat × List PV} {K : CR → Prop} (h : PCall P f args fun r => r = [.fn X.1 X.2]) (k : ∀ n c, X = (n, c) → K (.pure [.fn n c])) : cp f args K := callP hcp h fun _ e => e ▸ k X.1 X.2 rfl
theorem fnA (hcc : ACall P = cc) {X : Nat × List PV} {K : AV → List AObj → Prop} (h : PCall P f args fun r => r = [.fn X.1 X.2]) (ha : optL pureX aargs = some args) (k : ∀ n c, X = (n, c) → K (.p (.fn n c)) H) : cc f aargs H K := callA hcc ha h fun _ e => e ▸ k X.1 X.2 rfl
end

set_option maxHeartbeats 4000000 in
theorem compile_c (op n : Int) (v : Val) (ar : List Ex) (es : List (List PV)) (hes : ar.map Ex.cells = es) (hs : wideN ar.length)
    (IH : ∀ x, x ∈ ar → PCall Tryz.prog 33 [.agg x.cells] fun r => r = [.fn (wk x).1 (wk x).2]) :
    PCall Tryz.prog 33 [.agg [.int .i64 op, .int .i64 n, .int .i64 v.k, .int .i64 v.n, .str v.s, .sl es]] fun r => r = [.fn (wk (.mk op n v ar)).1 (wk (.mk op n v ar)).2] := by
  have hel : es.length = ar.length := by rw [← hes]; simp
  obtain ⟨vk, vn, vs⟩ := v
  obtain ⟨q, hq⟩ : ∃ q, wk (.mk op n ⟨vk, vn, vs⟩ ar) = q := ⟨_, rfl⟩
  rw [hq]
  rw [wk, cells_mk, hes, wkL_eq] at hq
  unfold wideN at hs
  have hmc : ∀ (op' m' vk' vn' : Int) (vs' : ByteArray) (ar' : List Ex) (es' : List (List PV)) (i : Nat), ar[i]? = some (.mk op' m' ⟨vk', vn', vs'⟩ ar') → ar'.map Ex.cells = es' →
      PCall Tryz.prog 33 [.agg [.int .i64 op', .int .i64 m', .int .i64 vk', .int .i64 vn', .str vs', .sl es']] fun r => r = [.fn (wk (.mk op' m' ⟨vk', vn', vs'⟩ ar')).1 (wk (.mk op' m' ⟨vk', vn', vs'⟩ ar')).2] := by
    intro op' m' vk' vn' vs' ar' es' i hx he
    have := IH _ (List.mem_of_getElem? hx)
    rw [cells_mk, he] at this
    exact this
  refine PCall.x (nt := 77) (res := [.tmp 2]) mixed tt_ok [(62, [1, 4]), (64, [1]), (66, [1, 3, 0])] Tryz.func33 rfl rfl rfl c33 (Nat.le_of_ble_eq_true rfl) ?_
  intro cp cc lp Q' hcp hcc hlp hQ
  repeat' (first
    | (with_reducible refine Nm.mk ?_; intro z hz)
    | (with_reducible refine IfB.mk ?_ ?_ <;> (intro h; cases h))
    | (with_reducible refine Two.l ?_; refine Asm.mk ?_ ?_; focus (decide +kernel))
    | (with_reducible refine Two.r ?_)
    | (with_reducible refine Asm.mk ?_ ?_; focus (first | kernel_rfl | decide))
    | (with_reducible refine Asm.mk2 ?_ ?_)
    | ((fail_if_success (with_reducible first | refine hQ _ ?_ | refine Side.mk ?_ | refine isCP hcp ?_ | refine isCC hcc ?_ | refine isLP hlp ?_ | refine Ix.mk ?_ | refine SIx.mk ?_ | refine SEx.mk ?_ | refine EIx.mk ?_ | refine RIx.mk ?_ | show False | refine hR ?_ _ ?_ ?_ ?_ ?_ ?_ | refine hR2 ?_ _ ?_ ?_ ?_ ?_ ?_)); cbv))
  simp only [nc] at hz
  simp only [nc'] at hz
  have hzl := hz
  clear hz
  rename Int => zl
  refine mintX hlp 1 1 0 rfl rfl ?_
  refine loopTz [(62, [1, 4]), (64, [1]), (66, [1, 3, 0])] (ι := Int × List (List PV) × Nat) mixed tt_ok hcp hcc hlp [1, 3, 12, 13] (fun p => [(14, .p (.int .i64 p.1))])
    (fun p => [.cells [.p (.int .i64 op), .p (.int .i64 n), .p (.int .i64 vk), .p (.int .i64 vn), .p (.str vs), .p (.sl es)], .cells [.tok 2 p.2.1], .spare p.2.2 1])
    (fun p => 0 ≤ p.1 ∧ p.1 ≤ zl ∧ (ar.take p.1.toNat).map wkc = p.2.1 ∧ p.2.1.length = p.2.2) (fun p => (zl - p.1).toNat)
    (0, [], 0) 3 (fun _ => rfl) ⟨by show (0 : Int) ≤ 0; omega, by show (0 : Int) ≤ zl; omega, by simp, rfl⟩ ⟨rfl, trivial⟩ rfl ?_
  rintro R ⟨i, L, m⟩ ⟨hi0, hi1, hl, hm⟩ hR
  have hi0 : 0 ≤ i := hi0
  have hi1 : i ≤ zl := hi1
  have hl : (ar.take i.toNat).map wkc = L := hl
  have hm : L.length = m := hm
  have hll : L.length ≤ i.toNat := by rw [← hl]; simp; omega
  have hok : okEs 1 L = true := by rw [← hl]; exact okEs_wkc _
  have hk : decide (i < zl) = true → i < ar.length := by simp only [decide_eq_true_eq]; omega
  have hst : decide (i < zl) = true → L.length + 1 ≤ maxLen ∧ (L.length + 1) * 8 ≤ 140737488355328 ∧ IntKind.i64.wrap (i + 1) = i + 1 ∧ (0 ≤ i + 1 ∧ i + 1 ≤ zl) ∧ (zl - (i + 1)).toNat < (zl - i).toNat := by
    intro h
    have hlt := hk h
    simp only [decide_eq_true_eq] at h
    refine ⟨by simp only [maxLen]; omega, by omega, wrap_in (by omega), by omega, by omega⟩
  have hfin : decide (i < zl) = false → ar.map wkc = L := by
    simp only [decide_eq_false_iff_not]; intro h
    rw [← hl, List.take_of_length_le (by omega)]
  repeat' (first
    | (with_reducible refine Nm.mk ?_; intro z hz)
    | (with_reducible refine IfB.mk ?_ ?_ <;> (intro h; cases h))
    | (with_reducible refine Two.l ?_; refine Asm.mk ?_ ?_; focus (decide +kernel))
    | (with_reducible refine Two.r ?_)
    | (with_reducible refine Asm.mk ?_ ?_; focus (first | kernel_rfl | (obtain ⟨u1, u2, u3⟩ := hst (by assumption); exact ⟨hm.symm, rfl, hok, rfl, u1, u2⟩)))
    | (with_reducible refine isCP hcp ?_; first | (refine fnP hcp (hmc _ _ _ _ _ _ _ i.toNat (by assumption) (by assumption)) ?_; intro k2 c2 hX) | (refine vP hcp (clean_c _ _ _) ?_; intro v hv) | (refine xP hcp (one_c _ _ _) ?_; skip) | (refine xP hcp (two_c _ _ _) ?_; skip) | (refine xP hcp (by_c _ _ _ _) ?_; skip))
    | (with_reducible refine isCC hcc ?_; first | (refine fnA hcc (hmc _ _ _ _ _ _ _ i.toNat (by assumption) (by assumption)) rfl ?_; intro k2 c2 hX) | (refine vA hcc (clean_c _ _ _) rfl ?_; intro v hv) | (refine xA hcc (one_c _ _ _) rfl ?_; skip) | (refine xA hcc (two_c _ _ _) rfl ?_; skip) | (refine xA hcc (by_c _ _ _ _) rfl ?_; skip))
    | (with_reducible refine Ix.ex hes hi0 (hk (by assumption)) ?_; intro op' m' vk' vn' vs' ar' es' hx hes')
    | (with_reducible refine Asm.mk2 ?_ ?_)
    | ((fail_if_success (with_reducible first | refine hQ _ ?_ | refine Side.mk ?_ | refine isCP hcp ?_ | refine isCC hcc ?_ | refine isLP hlp ?_ | refine Ix.mk ?_ | refine SIx.mk ?_ | refine SEx.mk ?_ | refine EIx.mk ?_ | refine RIx.mk ?_ | show False | refine hR ?_ _ ?_ ?_ ?_ ?_ ?_ | refine hR2 ?_ _ ?_ ?_ ?_ ?_ ?_)); cbv))
  · refine Side.mk ?_
    obtain ⟨u1, u2, u3⟩ := hst (by assumption)
    exact ⟨hm.symm, rfl, hok, rfl, u1, u2⟩
  · obtain ⟨u1, u2, e1, u3, u4⟩ := hst (by assumption)
    rw [e1] at hz
    rename_i L2 hL2 m2 hm2
    have et : ar.take (i + 1).toNat = ar.take i.toNat ++ [.mk op' m' ⟨vk', vn', vs'⟩ ar'] := by rw [show (i + 1).toNat = i.toNat + 1 by omega, takeS hx]
    refine hR (i + 1, _, _) _ ⟨u3.1, u3.2, ?_, ?_⟩ u4 ⟨hz ▸ rfl, trivial⟩ ⟨rfl, rfl, rfl, rfl, trivial⟩ rfl
    · show (ar.take (i + 1).toNat).map wkc = L2
      rw [et, List.map_append, hl, ← hL2]
      simp only [List.map_cons, List.map_nil, wkc, hX]
    · show L2.length = m2
      rw [← hL2, ← hm2, List.length_append]
  all_goals (refine hQ _ ?_; rw [← hq, hfin (by assumption)]; clear hQ hR hcp hcc hlp hq hfin hst hk hok hmc IH)
  all_goals first
    | (have e := of_decide_eq_true (show decide (op = _) = true by assumption)
       subst e
       subst_vars
       rfl)
    | (unfold wkOp; simp_all; first | rfl | exact ⟨rfl, rfl⟩)
theorem compile_all : ∀ (m : Nat) (e : Ex), e.sz ≤ m → e.wide → PCall Tryz.prog 33 [.agg e.cells] fun r => r = [.fn (wk e).1 (wk e).2]
  | 0, .mk op n v ar, h, _ => by simp [Ex.sz] at h
  | m + 1, .mk op n v ar, h, hw => by
    rw [cells_mk]
    refine compile_c op n v ar _ rfl hw.1 fun x hx => compile_all m x ?_ (wide_mem hw.2 hx)
    have := sz_mem hx
    simp only [Ex.sz] at h; omega
end Go.Proofs.YtnhmnfokbinplaaGreat

namespace Go.Proofs.YtnhmnfokbinplaaGreat
open Go Go.RowKit
set_option linter.unusedSimpArgs false
set_option linter.unusedVariables false

mutual
def Ex.ht : Ex → Nat
  | .mk _ _ _ ar => htL ar + 1
def htL : List Ex → Nat
  | [] => 0
  | e :: r => max e.ht (htL r)
end
mutual
def goodE : Ex → Bool
  | .mk op n v ar => !badE op n v ar.length && goodL ar
def goodL : List Ex → Bool
  | [] => true
  | e :: r => goodE e && goodL r
end
theorem goodL_all : ∀ l : List Ex, goodL l = l.all goodE
  | [] => rfl
  | e :: r => by simp [goodL, goodL_all r]
theorem sz_pos : ∀ e : Ex, 0 < e.sz
  | .mk _ _ _ _ => by simp [Ex.sz]
theorem ht_pos : ∀ e : Ex, 0 < e.ht
  | .mk _ _ _ _ => by simp [Ex.ht]
theorem mx_max (a b : Int) : mx a b = max a b := by unfold mx; split <;> omega

mutual
theorem walkE_eq : ∀ (e : Ex) (d n h : Int), 0 ≤ n → (((walkE e d n h).1 = true ↔ (goodE e = true ∧ n + (e.sz : Int) ≤ 400 ∧ d + (e.ht : Int) ≤ 41)) ∧ ((walkE e d n h).1 = true → walkE e d n h = (true, n + (e.sz : Int), max h (d + (e.ht : Int) - 1))))
  | .mk op m v ar, d, n, h, h0 => by
    rw [walkE]
    have hs := sz_pos (.mk op m v ar)
    have hh := ht_pos (.mk op m v ar)
    simp only [Ex.sz, Ex.ht] at hs hh
    simp only [goodE, Ex.sz, Ex.ht, Bool.and_eq_true, Bool.not_eq_true']
    split
    · rename_i hc
      simp only [Bool.or_eq_true, decide_eq_true_eq] at hc
      refine ⟨⟨fun h => (by cases h), fun h => ?_⟩, fun h => by cases h⟩
      obtain ⟨⟨h1, h2⟩, h3, h4⟩ := h
      rcases hc with (hc | hc) | hc
      · omega
      · omega
      · rw [h1] at hc; cases hc
    · rename_i hc
      simp only [Bool.or_eq_true, decide_eq_true_eq, not_or] at hc
      have hb : badE op m v ar.length = false := by simpa using hc.2
      have ih := walkL_eq ar (d + 1) (n + 1) (mx h d) (by omega) (by omega) (by omega) (by rw [mx_max]; omega)
      refine ⟨ih.1.trans ⟨fun ⟨a, b, c⟩ => ⟨⟨hb, a⟩, by omega, by omega⟩, fun ⟨⟨_, a⟩, b, c⟩ => ⟨a, by omega, by omega⟩⟩, fun ht => ?_⟩
      rw [ih.2 ht, mx_max]
      simp only [Prod.mk.injEq, true_and]
      omega
theorem walkL_eq : ∀ (l : List Ex) (d n h : Int), 0 ≤ n → n ≤ 400 → d ≤ 41 → d - 1 ≤ h → (((walkL l d n h).1 = true ↔ (goodL l = true ∧ n + (szL l : Int) ≤ 400 ∧ d + (htL l : Int) ≤ 41)) ∧ ((walkL l d n h).1 = true → walkL l d n h = (true, n + (szL l : Int), max h (d + (htL l : Int) - 1))))
  | [], d, n, h, h0, h1, h2, h3 => by
    simp only [walkL, goodL, szL, htL, true_iff, true_and, true_implies, Prod.mk.injEq]
    omega
  | a :: r, d, n, h, h0, h1, h2, h3 => by
    have ia := walkE_eq a d n h h0
    have hs := sz_pos a
    rw [walkL]
    simp only [goodL, szL, htL, Bool.and_eq_true]
    rcases h4 : walkE a d n h with ⟨b1, n1, h5⟩
    cases b1 with
    | false =>
      rw [h4] at ia
      refine ⟨⟨fun h => (by cases h), fun h => ?_⟩, fun h => by cases h⟩
      obtain ⟨⟨p, q⟩, u, v⟩ := h
      have := ia.1.2 ⟨p, by omega, by omega⟩
      cases this
    | true =>
      rw [h4] at ia
      have e := ia.2 rfl
      simp only [Prod.mk.injEq, true_and] at e
      obtain ⟨e1, e2⟩ := e
      have i1 := ia.1.1 rfl
      have ir := walkL_eq r d n1 h5 (by omega) (by omega) h2 (by omega)
      refine ⟨ir.1.trans ⟨fun ⟨p, q, u⟩ => ⟨⟨i1.1, p⟩, by omega, by omega⟩, fun ⟨⟨_, p⟩, q, u⟩ => ⟨p, by omega, by omega⟩⟩, fun ht => ?_⟩
      show walkL r d n1 h5 = _
      rw [ir.2 ht]
      simp only [Prod.mk.injEq, true_and]
      omega
end
theorem built_eq (e : Ex) : builtM e = true ↔ (goodE e = true ∧ e.sz ≤ 400 ∧ e.ht ≤ 40) := by
  rw [built_iff]
  have := (walkE_eq e 1 0 0 (by omega)).1
  rw [this]
  constructor
  · rintro ⟨a, b, c⟩; exact ⟨a, by omega, by omega⟩
  · rintro ⟨a, b, c⟩; exact ⟨a, by omega, by omega⟩
/-! ### values are clean, their texts are short -/
def cleanV (v : Val) : Prop := clean v = v
theorem clean_zero : cleanV Val.zero := by simp [cleanV, clean, Val.zero]
def shortV (v : Val) : Prop := v.k = 2 → v.s.size ≤ 1000
theorem short_num (n : Int) : shortV (num n) := by intro h; simp [num] at h
theorem short_zero : shortV Val.zero := by intro h; simp [Val.zero] at h
theorem short_evOp {col : Int → Val} (hc : ∀ i, shortV (col i)) (op n : Int) (v : Val) {l : List Val} (hv : op = 2 → shortV v) (h : ∀ x, x ∈ l → shortV x) : shortV (evOp col op n v l) := by
  have hg : ∀ i : Nat, shortV ((l[i]?).getD Val.zero) := fun i => by
    cases hi : l[i]? with
    | none => exact short_zero
    | some x => exact h x (List.mem_of_getElem? hi)
  have hf : ∀ b, shortV (flag b) := fun b => short_num _
  have hr : ∀ op a b, shortV (reckon op a b) := fun op a b => by
    unfold reckon; split
    · cases reckN op a.n b.n <;> simp [optNum, short_num, short_zero]
    · exact short_zero
  unfold evOp
  split
  · exact hc _
  split
  · rename_i h2
    have := hv h2
    unfold clean; intro hk
    by_cases h1 : v.k = 1
    · simp [h1] at hk
    · by_cases h3 : v.k = 2
      · simp [h3]; exact this h3
      · simp [h1, h3, Val.zero] at hk
  split
  · exact hr _ _ _
  split
  · unfold vnot; split; exact hf _; exact short_zero
  split
  · exact hf _
  split
  · unfold vlenV; split; exact short_num _; exact short_zero
  split
  · exact hr _ _ _
  split
  · unfold catV
    split
    · exact short_zero
    · rename_i hh
      intro _
      simp only [not_or, Decidable.not_not, Int.not_lt] at hh
      simp only [ByteArray.size_append]
      omega
  split
  · unfold both; (repeat' split) <;> first | exact hf _ | exact short_zero
  split
  · split <;> exact hg _
  · unfold testV; split; exact short_zero; exact hf _

/-! ### folding -/
def knownE : Ex → Bool
  | .mk op _ _ _ => decide (op = 2)
def isE (yes : Bool) : Ex → Bool
  | .mk op _ v _ => decide (op = 2) && decide (v.k = 1) && ((!decide (v.n = 0)) == yes)
def Ex.val : Ex → Val
  | .mk _ _ v _ => v
def constE (v : Val) : Ex := .mk 2 0 v []
def zeroE : Ex := .mk 0 0 Val.zero []
def foldN : Ex → Ex
  | .mk op n v ar =>
    if ar.length = 0 then .mk op n v ar
    else if ar.all knownE = true then constE (evalE (fun _ => Val.zero) (.mk op n v ar))
    else if op = 19 ∧ ar.any (isE false) = true then constE (num 0)
    else if op = 20 ∧ ar.any (isE true) = true then constE (num 1)
    else if op = 21 ∧ knownE ((ar[0]?).getD zeroE) = true then (if trueV ((ar[0]?).getD zeroE).val = true then (ar[1]?).getD zeroE else (ar[2]?).getD zeroE)
    else .mk op n v ar
def foldM (e : Ex) : Ex := if builtM e = true then mapE foldN e else mapE id e

def nN (op n : Int) : Int := if op = 1 then n else 0
def nV (op : Int) (v : Val) : Val := if op = 1 then Val.zero else if op = 2 then clean v else Val.zero
theorem mapE_mk (g : Ex → Ex) (op n : Int) (v : Val) (ar : List Ex) : mapE g (.mk op n v ar) = g (.mk op (nN op n) (nV op v) (ar.map (mapE g))) := by rw [mapE, mapL_eq]; rfl
theorem badE_norm (op n : Int) (v : Val) (k : Nat) : badE op (nN op n) (nV op v) k = badE op n v k := by
  unfold badE nN nV
  by_cases h1 : op = 1
  · subst h1; simp
  · by_cases h2 : op = 2
    · subst h2
      by_cases hk : v.k = 2
      · simp [clean, hk]
      · by_cases hk1 : v.k = 1
        · simp [clean, hk1]
        · simp [clean, hk, hk1, Val.zero]
    · simp [h1, h2]

theorem arity_len {op : Int} {ar : List Ex} (h : arityE op = (ar.length : Int)) (h0 : ¬ ar.length = 0) : ¬ op = 1 ∧ ¬ op = 2 := by
  constructor
  · rintro rfl; simp [arityE] at h; omega
  · rintro rfl; simp [arityE] at h; omega
/-- What a node becomes is good, no larger, no higher. -/
theorem mem_sz {l : List Ex} {e : Ex} (h : e ∈ l) : e.ht ≤ htL l ∧ e.sz ≤ szL l := by
  refine ⟨?_, sz_mem h⟩
  induction l with
  | nil => simp at h
  | cons a r ih =>
    simp only [htL]
    rcases List.mem_cons.1 h with g | g
    · subst g; omega
    · have := ih g; omega
theorem getD_mem {l : List Ex} {i : Nat} (h : i < l.length) : (l[i]?).getD zeroE ∈ l := by
  rw [List.getElem?_eq_getElem h]; exact List.getElem_mem h
theorem const_good {v : Val} (h : shortV v) : goodE (constE v) = true := by
  have : ¬ (v.k = 2 ∧ (1000 : Int) < (v.s.size : Int)) := fun ⟨a, b⟩ => by have := h a; omega
  simp only [constE, goodE, goodL, badE, arityE]
  simp
  first
    | done
    | (intro a
       have := h a
       omega)
    | (have := h
       unfold shortV at this
       omega)
theorem short_known {a : Ex} (hg : goodE a = true) (hk : knownE a = true) (col : Int → Val) : shortV (evalE col a) := by
  obtain ⟨op, n, v, ar⟩ := a
  simp only [knownE, decide_eq_true_eq] at hk
  subst hk
  simp only [goodE, Bool.and_eq_true, Bool.not_eq_true'] at hg
  have hb := hg.1
  simp only [badE, Bool.or_eq_false_iff, Bool.and_eq_false_iff, decide_eq_false_iff_not] at hb
  rw [evalE]
  simp only [evOp]
  intro hk
  have : v.k = 2 ∧ (clean v).s = v.s := by
    have hk' : (clean v).k = 2 := by simpa using hk
    unfold clean at hk' ⊢
    by_cases h1 : v.k = 1
    · simp [h1] at hk'
    · by_cases h2 : v.k = 2
      · simp [h2]
      · simp [h1, h2, Val.zero] at hk'
  simp only [show ¬ (2 : Int) = 1 by omega, if_false, if_true, this.2]
  have h3 := hb.2
  simp only [this.1, not_true, false_or] at h3
  omega
theorem foldN_less {op n : Int} {v : Val} {ar : List Ex} (hb : badE op n v ar.length = false) (hg : goodL ar = true) : goodE (foldN (.mk op n v ar)) = true ∧ (foldN (.mk op n v ar)).sz ≤ szL ar + 1 ∧ (foldN (.mk op n v ar)).ht ≤ htL ar + 1 := by
  have ha := badE_arity hb
  have self : goodE (.mk op n v ar) = true ∧ (Ex.mk op n v ar).sz ≤ szL ar + 1 ∧ (Ex.mk op n v ar).ht ≤ htL ar + 1 := by
    simp [goodE, hb, hg, Ex.sz, Ex.ht]
  have con : ∀ v, shortV v → goodE (constE v) = true ∧ (constE v).sz ≤ szL ar + 1 ∧ (constE v).ht ≤ htL ar + 1 := fun v h => ⟨const_good h, by simp [constE, Ex.sz, szL], by simp [constE, Ex.ht, htL]⟩
  have mem : ∀ i, i < ar.length → goodE ((ar[i]?).getD zeroE) = true ∧ ((ar[i]?).getD zeroE).sz ≤ szL ar + 1 ∧ ((ar[i]?).getD zeroE).ht ≤ htL ar + 1 := fun i hi => by
    have hm := getD_mem hi
    have := mem_sz hm
    rw [goodL_all] at hg
    exact ⟨List.all_eq_true.1 hg _ hm, by omega, by omega⟩
  rw [foldN]
  split
  · exact self
  rename_i h0
  obtain ⟨n1, n2⟩ := arity_len ha h0
  split
  · rename_i hk
    refine con _ ?_
    rw [evalE]
    refine short_evOp (fun _ => short_zero) op n v (fun h => absurd h n2) fun x hx => ?_
    rw [evalL_eq, List.mem_map] at hx
    obtain ⟨a, ha', rfl⟩ := hx
    rw [goodL_all] at hg
    exact short_known (List.all_eq_true.1 hg a ha') (List.all_eq_true.1 hk a ha') _
  split
  · exact con _ (short_num _)
  split
  · exact con _ (short_num _)
  split
  · rename_i hi
    obtain ⟨rfl, _⟩ := hi
    have hl : ar.length = 3 := by simp [arityE] at ha; omega
    split
    · exact mem 1 (by omega)
    · exact mem 2 (by omega)
  · exact self
mutual
theorem fold_less : ∀ e : Ex, goodE e = true → goodE (mapE foldN e) = true ∧ (mapE foldN e).sz ≤ e.sz ∧ (mapE foldN e).ht ≤ e.ht
  | .mk op n v ar, hg => by
    simp only [goodE, Bool.and_eq_true, Bool.not_eq_true'] at hg
    rw [mapE_mk, ← mapL_eq]
    obtain ⟨i1, i2, i3⟩ := fold_lessL ar hg.2
    have := foldN_less (op := op) (n := nN op n) (v := nV op v) (ar := mapL foldN ar) (by rw [badE_norm, mapL_eq, List.length_map]; exact hg.1) i1
    simp only [Ex.sz, Ex.ht]
    exact ⟨this.1, by omega, by omega⟩
theorem fold_lessL : ∀ l : List Ex, goodL l = true → goodL (mapL foldN l) = true ∧ szL (mapL foldN l) ≤ szL l ∧ htL (mapL foldN l) ≤ htL l
  | [], _ => ⟨rfl, Nat.le_refl _, Nat.le_refl _⟩
  | e :: r, hg => by
    simp only [goodL, Bool.and_eq_true] at hg
    obtain ⟨a1, a2, a3⟩ := fold_less e hg.1
    obtain ⟨b1, b2, b3⟩ := fold_lessL r hg.2
    simp only [mapL, goodL, szL, htL, a1, b1]
    exact ⟨rfl, by omega, by omega⟩
end

theorem good_of_built {e : Ex} (h : builtM e = true) : goodE e = true := ((built_eq e).1 h).1
end Go.Proofs.YtnhmnfokbinplaaGreat

namespace Go.Proofs.YtnhmnfokbinplaaGreat
open Go Go.RowKit
set_option linter.unusedSimpArgs false
set_option linter.unusedVariables false

mutual
def colsM : Ex → List Int
  | .mk op n v ar => colsL ar ++ (if op = 1 then [n] else [])
def colsL : List Ex → List Int
  | [] => []
  | e :: r => colsM e ++ colsL r
end
mutual
theorem cols_sz : ∀ e : Ex, (colsM e).length ≤ e.sz
  | .mk op n v ar => by
    have := cols_szL ar
    simp only [colsM, Ex.sz, List.length_append]
    split <;> simp <;> omega
theorem cols_szL : ∀ l : List Ex, (colsL l).length ≤ szL l
  | [] => by simp [colsL]
  | e :: r => by
    have := cols_sz e
    have := cols_szL r
    simp only [colsL, szL, List.length_append]; omega
end
/-- What the columns of a row are. -/
def colOf (row : List Val) (n : Int) : Val := if (row.length : Int) ≤ n then Val.zero else clean ((row[n.toNat]?).getD Val.zero)
end Go.Proofs.YtnhmnfokbinplaaGreat

namespace Go.Proofs.YtnhmnfokbinplaaGreat
open Go Go.RowKit
set_option maxRecDepth 100000
set_option linter.unusedSimpArgs false
set_option linter.unusedVariables false

/-- What the model's numbers and texts are bounded by. -/
def okV (v : Val) : Prop := (-9223372036854775808 ≤ v.n ∧ v.n ≤ 9223372036854775807) ∧ v.s.size ≤ 140737488355328
theorem okV_zero : okV Val.zero := ⟨by decide, by decide⟩
theorem okV_num {n : Int} (h : -9223372036854775808 ≤ n ∧ n ≤ 9223372036854775807) : okV (num n) := ⟨h, by show (0 : Nat) ≤ _; omega⟩
theorem okV_flag (b : Bool) : okV (flag b) := okV_num (by split <;> decide)
theorem okV_clean {v : Val} (h : okV v) : okV (clean v) := by
  unfold clean
  split
  · exact ⟨h.1, by show (0 : Nat) ≤ _; omega⟩
  · split
    · exact ⟨by show _ ≤ (0 : Int) ∧ (0 : Int) ≤ _; omega, h.2⟩
    · exact okV_zero
theorem okV_opt (o : Option Int) (h : ∀ n, o = some n → -9223372036854775808 ≤ n ∧ n ≤ 9223372036854775807) : okV (optNum o) := by
  cases o with
  | none => exact okV_zero
  | some n => exact okV_num (h n rfl)
theorem in64_some {x n : Int} (h : in64 x = some n) : -9223372036854775808 ≤ n ∧ n ≤ 9223372036854775807 := by
  unfold in64 at h
  split at h
  · rename_i g; simp only [Option.some.injEq] at h; subst h; exact g
  · cases h
theorem okV_vlen {v : Val} (h : okV v) : okV (vlenV v) := by
  unfold vlenV
  split
  · refine okV_num ?_; have := h.2; omega
  · exact okV_zero
theorem okV_cat (a b : Val) : okV (catV a b) := by
  unfold catV
  split
  · exact okV_zero
  · rename_i h
    simp only [not_or, Decidable.not_not, Int.not_lt] at h
    refine ⟨by show _ ≤ (0 : Int) ∧ (0 : Int) ≤ _; omega, ?_⟩
    show (a.s ++ b.s).size ≤ _
    rw [ByteArray.size_append]; omega
theorem okV_not (a : Val) : okV (vnot a) := by unfold vnot; split; exact okV_flag _; exact okV_zero
theorem okV_both (op : Int) (a b : Val) : okV (both op a b) := by unfold both; (repeat' split) <;> first | exact okV_flag _ | exact okV_zero
theorem okV_test (op : Int) (a b : Val) : okV (testV op a b) := by unfold testV; split; exact okV_zero; exact okV_flag _
theorem okV_reckon (op : Int) {a b : Val} (ha : okV a) (hb : okV b) : okV (reckon op a b) := by
  unfold reckon
  split
  · refine okV_opt _ fun n hn => ?_
    have h1 := ha.1
    have h2 := hb.1
    unfold reckN at hn
    split at hn
    · exact in64_some hn
    split at hn
    · exact in64_some hn
    split at hn
    · exact in64_some hn
    split at hn
    · split at hn
      · cases hn
      · exact in64_some hn
    split at hn
    · split at hn
      · cases hn
      · rename_i h0
        simp only [Option.some.injEq] at hn
        subst hn
        have h3 : (a.n.tmod b.n).natAbs ≤ a.n.natAbs := by rw [Int.natAbs_tmod]; exact Nat.mod_le _ _
        have h4 : 0 ≤ a.n → 0 ≤ a.n.tmod b.n := fun h => Int.tmod_nonneg _ h
        have h5 : a.n ≤ 0 → a.n.tmod b.n ≤ 0 := fun h => by
          have := Int.tmod_nonneg b.n (a := -a.n) (by omega)
          rw [Int.neg_tmod] at this; omega
        omega
    · cases hn
  · exact okV_zero

mutual
def Ex.okc : Ex → Prop
  | .mk _ _ v ar => okV v ∧ okcL ar
def okcL : List Ex → Prop
  | [] => True
  | e :: r => e.okc ∧ okcL r
end
theorem okc_mem : ∀ {l : List Ex} {e : Ex}, okcL l → e ∈ l → e.okc
  | [], _, _, h => by simp at h
  | a :: r, e, hw, h => by
    rcases List.mem_cons.1 h with g | g
    · subst g; exact hw.1
    · exact okc_mem hw.2 g
theorem good_mem {l : List Ex} (h : goodL l = true) {e : Ex} (he : e ∈ l) : goodE e = true := by
  rw [goodL_all] at h; exact List.all_eq_true.1 h e he

theorem okV_evOp {col : Int → Val} {op n : Int} {v : Val} {l : List Val} (hc : op = 1 → okV (col n)) (hv : okV v) (hl : ∀ x, x ∈ l → okV x) : okV (evOp col op n v l) := by
  have g : ∀ i : Nat, okV ((l[i]?).getD Val.zero) := by
    intro i
    cases h : l[i]? with
    | none => exact okV_zero
    | some x => exact hl x (List.mem_of_getElem? h)
  unfold evOp
  split
  · rename_i h; exact hc h
  split
  · exact okV_clean hv
  split
  · exact okV_reckon _ (okV_num (by decide)) (g 0)
  split
  · exact okV_not _
  split
  · exact okV_flag _
  split
  · exact okV_vlen (g 0)
  split
  · exact okV_reckon _ (g 0) (g 1)
  split
  · exact okV_cat _ _
  split
  · exact okV_both _ _ _
  split
  · split
    · exact g 1
    · exact g 2
  · exact okV_test _ _ _

/-- What a worker is to give for an expression. -/
def Works (kc : Nat) (cc0 : List PV) (col : Int → Val) (e : Ex) : Prop :=
  okV (evalE col e) ∧ PCall Tryz.prog (wk e).1 (.fn kc cc0 :: (wk e).2) fun r => r = [(evalE col e).enc]
theorem work_c {kc : Nat} {cc0 : List PV} {col : Int → Val} (op n : Int) (hcol : op = 1 → 0 ≤ n → okV (col n) ∧ PCall Tryz.prog kc (.int .i64 n :: cc0) fun r => r = [(col n).enc])
     (v : Val) (ar : List Ex) (hb : badE op n v ar.length = false) (hv : okV v) (IH : ∀ x, x ∈ ar → Works kc cc0 col x) : Works kc cc0 col (.mk op n v ar) := by
  have ha := badE_arity hb
  have hop := arity_ops ha
  have hn : op = 1 → 0 ≤ n := by
    intro h
    subst h
    simp only [badE, Bool.or_eq_false_iff, Bool.and_eq_false_iff, decide_eq_false_iff_not] at hb
    rcases hb.1.2 with h | h
    · exact absurd trivial h
    · omega
  refine ⟨?_, ?_⟩
  · rw [evalE, evalL_eq]
    refine okV_evOp (fun h => (hcol h (hn h)).1) hv fun x hx => ?_
    obtain ⟨a, ha', rfl⟩ := List.mem_map.1 hx
    exact (IH a ha').1
  rw [wk, cells_mk, wkL_eq, evalE, evalL_eq]
  have l0 : ∀ a r, (wkc a :: r)[0]? = some [PV.fn (wk a).1 (wk a).2] := fun _ _ => rfl
  by_cases a0 : op = 1 ∨ op = 2
  · rcases a0 with rfl | rfl
    · exact colW_c kc cc0 _ n _ _ _ _ _ (hcol rfl (hn rfl)).2
    · exact constW_c kc cc0 (clean v)
  by_cases a1 : op = 3 ∨ op = 4 ∨ op = 5 ∨ op = 6
  · have hl : ar.length = 1 := by
      rcases a1 with rfl | rfl | rfl | rfl <;> (simp [arityE] at ha; omega)
    match ar, hl, IH with
    | [a], _, IH =>
      obtain ⟨ia, wa⟩ := IH a (by simp)
      rcases a1 with rfl | rfl | rfl | rfl
      · exact run1_c 71 [] _ _ kc cc0 _ rfl _ _ wa (negW_c _ ia.1)
      · exact run1_c 73 [] _ _ kc cc0 _ rfl _ _ wa (not_c _ _ _)
      · exact run1_c 74 _ _ _ kc cc0 _ rfl _ _ wa (nullW_c _)
      · exact run1_c 75 [] _ _ kc cc0 _ rfl _ _ wa (lenW_c _ ia.2)
  by_cases a3 : op = 21
  · have hl : ar.length = 3 := by subst a3; simp [arityE] at ha; omega
    match ar, hl, IH with
    | [a, b, c], _, IH =>
      obtain ⟨ia, wa⟩ := IH a (by simp)
      obtain ⟨ib, wb⟩ := IH b (by simp)
      obtain ⟨ic, wc⟩ := IH c (by simp)
      subst a3
      exact run3_c _ _ _ _ _ _ kc cc0 _ rfl rfl rfl _ _ _ wa wb wc
  have hl : ar.length = 2 := by
    have : arityE op = 2 := by unfold arityE; rw [if_neg a0, if_neg a1, if_neg a3, if_pos (by omega)]
    rw [this] at ha; omega
  match ar, hl, IH with
  | [a, b], _, IH =>
    obtain ⟨ia, wa⟩ := IH a (by simp)
    obtain ⟨ib, wb⟩ := IH b (by simp)
    have two : ∀ (kf : Nat) (cf : List PV) (c : Val), (PCall Tryz.prog kf ((evalE col a).enc :: (evalE col b).enc :: cf) fun r => r = [c.enc]) → PCall Tryz.prog 65 [.fn kc cc0, .ip [.fn kf cf], .ip [.sl ([a, b].map wkc)]] fun r => r = [c.enc] :=
      fun kf cf c h => run2_c kf cf _ _ _ _ kc cc0 _ rfl rfl _ _ c wa wb h
    have by' : ∀ (kf : Nat) (c : Val), (PCall Tryz.prog kf [.int .i64 op, (evalE col a).enc, (evalE col b).enc] fun r => r = [c.enc]) →
        PCall Tryz.prog 65 [.fn kc cc0, .ip [.fn 67 [.ip [.fn kf []], .ip [.int .i64 op, .int .i64 n, .int .i64 v.k, .int .i64 v.n, .str v.s, .sl ([a, b].map Ex.cells)]]], .ip [.sl ([a, b].map wkc)]] fun r => r = [c.enc] :=
      fun kf c h => two 67 _ c (runBy_c kf [] op n _ _ _ _ _ _ c h)
    by_cases b1 : op = 7 ∨ op = 8 ∨ op = 9 ∨ op = 10 ∨ op = 11
    · have h := by' 72 _ (reckon_c op _ _ _ _ _ _ ia.1 ib.1)
      rcases b1 with rfl | rfl | rfl | rfl | rfl <;> exact h
    by_cases b2 : op = 18
    · subst b2
      exact two 76 [] _ (cat_c _ _ _ _ _ _ (by have := ia.2; omega) (by have := ib.2; omega))
    by_cases b3 : op = 19 ∨ op = 20
    · have h := by' 77 _ (both_c op _ _ _ _ _ _)
      rcases b3 with rfl | rfl <;> exact h
    · have h := by' 79 _ (test_c op _ _ _ _ _ _)
      have : op = 12 ∨ op = 13 ∨ op = 14 ∨ op = 15 ∨ op = 16 ∨ op = 17 := by omega
      rcases this with rfl | rfl | rfl | rfl | rfl | rfl <;> exact h
theorem work_all {kc : Nat} {cc0 : List PV} {col : Int → Val} (hcol : ∀ n, 0 ≤ n → okV (col n) ∧ PCall Tryz.prog kc (.int .i64 n :: cc0) fun r => r = [(col n).enc]) :
    ∀ (m : Nat) (e : Ex), e.sz ≤ m → goodE e = true → e.okc → Works kc cc0 col e
  | 0, .mk op n v ar, h, _, _ => by simp [Ex.sz] at h
  | m + 1, .mk op n v ar, h, hg, ho => by
    simp only [goodE, Bool.and_eq_true, Bool.not_eq_true'] at hg
    refine work_c op n (fun _ => hcol n) v ar hg.1 ho.1 fun x hx => work_all hcol m x ?_ (good_mem hg.2 hx) (okc_mem ho.2 hx)
    have := sz_mem hx
    simp only [Ex.sz] at h; omega

/-- The columns of a row. -/
theorem rowOf_c (R : List (List PV)) : PCall Tryz.prog 34 [.sl R] fun r => r = [.fn 80 [.ip [.sl R]]] := by
  refine PCall.x (nt := 4) (res := [.tmp 2]) mixed tt_ok [] Tryz.func34 rfl rfl rfl c34 (Nat.le_of_ble_eq_true rfl) ?_
  intro cp cc lp Q' hcp hcc hlp hQ
  repeat' (first
    | (with_reducible refine Nm.mk ?_; intro z hz)
    | (with_reducible refine IfB.mk ?_ ?_ <;> (intro h; cases h))
    | (with_reducible refine Two.l ?_; refine Asm.mk ?_ ?_; focus (decide +kernel))
    | (with_reducible refine Two.r ?_)
    | (with_reducible refine Asm.mk ?_ ?_; focus (first | kernel_rfl | decide))
    | (with_reducible refine Asm.mk2 ?_ ?_)
    | ((fail_if_success (with_reducible first | refine hQ _ ?_ | refine Side.mk ?_ | refine isCP hcp ?_ | refine isCC hcc ?_ | refine isLP hlp ?_ | refine Ix.mk ?_ | refine SIx.mk ?_ | refine SEx.mk ?_ | refine EIx.mk ?_ | refine RIx.mk ?_ | show False | refine hR ?_ _ ?_ ?_ ?_ ?_ ?_ | refine hR2 ?_ _ ?_ ?_ ?_ ?_ ?_)); cbv))
  all_goals (refine hQ _ ?_; clear hQ hcp hcc hlp; subst_vars; simp_all [])
theorem rowCol_c (row : List Val) (R : List (List PV)) (hR : row.map Val.cells = R) (n : Int) (h0 : 0 ≤ n) : PCall Tryz.prog 80 [.int .i64 n, .ip [.sl R]] fun r => r = [(colOf row n).enc] := by
  have hl : R.length = row.length := by rw [← hR]; simp
  have hk : ∀ z : Int, (R.length : Int) = z → decide (z ≤ n) = false → n < row.length := by intro z h g; simp only [decide_eq_false_iff_not] at g; omega
  have hc1 : ∀ z : Int, (R.length : Int) = z → decide (z ≤ n) = true → colOf row n = Val.zero := by
    intro z h g; simp only [decide_eq_true_eq] at g; unfold colOf; rw [if_pos (by omega)]
  have hc2 : ∀ (z : Int) (x : Val), (R.length : Int) = z → decide (z ≤ n) = false → row[n.toNat]? = some x → colOf row n = clean x := by
    intro z x h g hx; simp only [decide_eq_false_iff_not] at g; unfold colOf; rw [if_neg (by omega), hx]; rfl
  refine PCall.x (nt := 14) (res := [.cell 3 23]) mixed tt_ok [] Tryz.func80 rfl rfl rfl c80 (Nat.le_of_ble_eq_true rfl) ?_
  intro cp cc lp Q' hcp hcc hlp hQ
  repeat' (first
    | (with_reducible refine Nm.mk ?_; intro z hz)
    | (with_reducible refine IfB.mk ?_ ?_ <;> (intro h; cases h))
    | (with_reducible refine Two.l ?_; refine Asm.mk ?_ ?_; focus (decide +kernel))
    | (with_reducible refine Two.r ?_)
    | (with_reducible refine Asm.mk ?_ ?_; focus kernel_rfl)
    | (with_reducible refine isCP hcp ?_; first | (refine vP hcp (clean_c _ _ _) ?_; intro v hv))
    | (with_reducible refine isCC hcc ?_; first | (refine vA hcc (clean_c _ _ _) rfl ?_; intro v hv))
    | (with_reducible refine Ix.map hR cells_len (by decide) h0 (hk _ (by assumption) (by assumption)) ?_; intro x hx)
    | (with_reducible refine Asm.mk2 ?_ ?_)
    | ((fail_if_success (with_reducible first | refine hQ _ ?_ | refine Side.mk ?_ | refine isCP hcp ?_ | refine isCC hcc ?_ | refine isLP hlp ?_ | refine Ix.mk ?_ | refine SIx.mk ?_ | refine SEx.mk ?_ | refine EIx.mk ?_ | refine RIx.mk ?_ | show False | refine hR ?_ _ ?_ ?_ ?_ ?_ ?_ | refine hR2 ?_ _ ?_ ?_ ?_ ?_ ?_)); cbv))
  · refine hQ _ ?_
    rw [hc1 _ (by assumption) (by assumption)]; rfl
  · refine hQ _ ?_
    rw [hc2 _ _ (by assumption) (by assumption) hx]
    clear hQ hcp hcc hlp hk hc1 hc2
    subst_vars; rfl
def rowOk (row : List Val) : Prop := ∀ v, v ∈ row → okV v
theorem okV_colOf {row : List Val} (h : rowOk row) (n : Int) : okV (colOf row n) := by
  unfold colOf
  split
  · exact okV_zero
  · refine okV_clean ?_
    cases hx : row[n.toNat]? with
    | none => exact okV_zero
    | some x => exact h x (List.mem_of_getElem? hx)
theorem eval_c (op n vk vn : Int) (vs : ByteArray) (ar : List Ex) (es : List (List PV)) (hes : ar.map Ex.cells = es) (hw : (Ex.mk op n ⟨vk, vn, vs⟩ ar).wide) (ho : (Ex.mk op n ⟨vk, vn, vs⟩ ar).okc) (row : List Val) (R : List (List PV)) (hR : row.map Val.cells = R) (hr : rowOk row) :
    PCall Tryz.prog 9 [.agg [.int .i64 op, .int .i64 n, .int .i64 vk, .int .i64 vn, .str vs, .sl es], .sl R] fun r => r = [(evalM (colOf row) (.mk op n ⟨vk, vn, vs⟩ ar)).enc] := by
  have hcm := compile_all _ _ (Nat.le_refl _) hw
  have hrun : builtM (.mk op n ⟨vk, vn, vs⟩ ar) = true → PCall Tryz.prog (wk (.mk op n ⟨vk, vn, vs⟩ ar)).1 (.fn 80 [.ip [.sl R]] :: (wk (.mk op n ⟨vk, vn, vs⟩ ar)).2) fun r => r = [(evalM (colOf row) (.mk op n ⟨vk, vn, vs⟩ ar)).enc] := by
    intro hb
    have h := (work_all (kc := 80) (cc0 := [.ip [.sl R]]) (col := colOf row) (fun n h => ⟨okV_colOf hr n, rowCol_c row R hR n h⟩) _ _ (Nat.le_refl _) (good_of_built hb) ho).2
    unfold evalM; rw [if_pos hb]; exact h
  have hno : builtM (.mk op n ⟨vk, vn, vs⟩ ar) = false → evalM (colOf row) (.mk op n ⟨vk, vn, vs⟩ ar) = Val.zero := by intro hb; unfold evalM; rw [if_neg (by rw [hb]; decide)]
  have hbt := ebuilt_c op n vk vn vs ar es hes
  rw [cells_mk, hes] at hcm
  obtain ⟨E, hE⟩ : ∃ E, Ex.mk op n ⟨vk, vn, vs⟩ ar = E := ⟨_, rfl⟩
  rw [hE] at hcm hrun hno hbt ⊢
  obtain ⟨b, hb⟩ : ∃ b, builtM E = b := ⟨_, rfl⟩
  rw [hb] at hrun hno hbt
  have hrun' : ∀ k c z, wk E = (k, c) → b = z → (!z) = false → PCall Tryz.prog k (.fn 80 [.ip [.sl R]] :: c) fun r => r = [(evalM (colOf row) E).enc] := by
    intro k c z hk e hb
    subst e
    have := hrun (by simpa using hb)
    rw [hk] at this
    exact this
  refine PCall.x (nt := 14) (res := [.cell 4 23]) mixed tt_ok [] Tryz.func9 rfl rfl rfl c9 (Nat.le_of_ble_eq_true rfl) ?_
  intro cp cc lp Q' hcp hcc hlp hQ
  repeat' (first
    | (with_reducible refine Nm.mk ?_; intro z hz)
    | (with_reducible refine IfB.mk ?_ ?_ <;> (intro h; cases h))
    | (with_reducible refine Two.l ?_; refine Asm.mk ?_ ?_; focus (decide +kernel))
    | (with_reducible refine Two.r ?_)
    | (with_reducible refine Asm.mk ?_ ?_; focus kernel_rfl)
    | (with_reducible refine isCP hcp ?_; first | (refine bP hcp (hbt) ?_; intro z hz) | (refine fnP hcp (hcm) ?_; intro k c hX) | (refine xP hcp (rowOf_c _) ?_; skip))
    | (with_reducible refine isCC hcc ?_; first | (refine bA hcc (hbt) rfl ?_; intro z hz) | (refine fnA hcc (hcm) rfl ?_; intro k c hX) | (refine xA hcc (rowOf_c _) rfl ?_; skip))
    | (with_reducible refine isCC hcc ?_; refine vA hcc (hrun' _ _ _ hX (by assumption) (by assumption)) (hb1 rfl) ?_; intro v hv)
    | (with_reducible refine Asm.mk2 ?_ ?_)
    | ((fail_if_success (with_reducible first | refine hQ _ ?_ | refine Side.mk ?_ | refine isCP hcp ?_ | refine isCC hcc ?_ | refine isLP hlp ?_ | refine Ix.mk ?_ | refine SIx.mk ?_ | refine SEx.mk ?_ | refine EIx.mk ?_ | refine RIx.mk ?_ | show False | refine hR ?_ _ ?_ ?_ ?_ ?_ ?_ | refine hR2 ?_ _ ?_ ?_ ?_ ?_ ?_)); cbv))
  · refine hQ _ ?_
    rw [hno (by clear hQ hcp hcc hlp hcm hrun hrun' hbt; simp_all)]; rfl
  · refine hQ _ ?_
    clear hQ hcp hcc hlp hcm hrun hrun' hbt
    subst_vars; rfl
end Go.Proofs.YtnhmnfokbinplaaGreat

namespace Go.Proofs.YtnhmnfokbinplaaGreat
open Go Go.RowKit
set_option maxRecDepth 100000
set_option linter.unusedVariables false

theorem cells80 : Tryz.prog.cellsOf 26 = 6 := by kernel_rfl
theorem cells78 : Tryz.prog.cellsOf 24 = 1 := by kernel_rfl
theorem bytes80 : Tryz.prog.bytesOf 26 = 72 := by kernel_rfl
theorem ok_okV {v : Val} (h : v.ok) : okV v := by
  obtain ⟨_, h2, h3⟩ := h
  simp only [Lit.wf, Bool.and_eq_true, decide_eq_true_eq] at h2
  have e1 : IntKind.min .i64 = -9223372036854775808 := by decide
  have e2 : IntKind.max .i64 = 9223372036854775807 := by decide
  have : reachBytes = 140737488351232 := by decide
  exact ⟨by omega, by omega⟩
theorem wideL_of : ∀ {l : List Ex}, (∀ x, x ∈ l → x.wide) → wideL l
  | [], _ => trivial
  | e :: r, h => ⟨h e (by simp), wideL_of (fun x hx => h x (by simp [hx]))⟩
theorem okcL_of : ∀ {l : List Ex}, (∀ x, x ∈ l → x.okc) → okcL l
  | [], _ => trivial
  | e :: r, h => ⟨h e (by simp), okcL_of (fun x hx => h x (by simp [hx]))⟩
theorem exOf : ∀ (n : Nat) (cs : List PV), Fits Tryz.prog n 26 cs → ∃ e : Ex, e.cells = cs ∧ e.wide ∧ e.okc := by
  intro n
  induction n using Nat.strongRecOn with
  | _ n ih =>
    intro cs h
    obtain ⟨m, rfl, hl, hf⟩ := h.struct Tryz.underlying26
    rw [cells80] at hl
    obtain ⟨a, b, c, d, e, f, rfl⟩ : ∃ a b c d e f, cs = [a, b, c, d, e, f] := by
      match cs, hl with
      | [a, b, c, d, e, f], _ => exact ⟨a, b, c, d, e, f, rfl⟩
    have h0 : Fits Tryz.prog m 3 (([a, b, c, d, e, f].drop 0).take (Tryz.prog.cellsOf 3)) := hf 0 _ rfl
    have h1 : Fits Tryz.prog m 3 (([a, b, c, d, e, f].drop 1).take (Tryz.prog.cellsOf 3)) := hf 1 _ rfl
    have h2 : Fits Tryz.prog m 23 (([a, b, c, d, e, f].drop 2).take (Tryz.prog.cellsOf 23)) := hf 2 _ rfl
    have h3 : Fits Tryz.prog m 24 (([a, b, c, d, e, f].drop 5).take (Tryz.prog.cellsOf 24)) := hf 3 _ rfl
    rw [cells3] at h0 h1
    rw [cells25] at h2
    rw [cells78] at h3
    have h0 : Fits Tryz.prog m 3 [a] := h0
    have h1 : Fits Tryz.prog m 3 [b] := h1
    have h2 : Fits Tryz.prog m 23 [c, d, e] := h2
    have h3 : Fits Tryz.prog m 24 [f] := h3
    obtain ⟨op, e0, _⟩ := h0.int Tryz.underlying3
    obtain ⟨nn, e1, _⟩ := h1.int Tryz.underlying3
    obtain ⟨v, e2, ov⟩ := cellsV h2
    obtain ⟨m', es, rfl, e3, ⟨_, hb⟩, hes⟩ := h3.slice Tryz.underlying24
    simp only [List.cons.injEq, and_true, Val.cells] at e0 e1 e2 e3
    obtain ⟨rfl, rfl, rfl⟩ := e2
    subst e0 e1 e3
    obtain ⟨l, rfl, hlk⟩ := elems_of (enc := Ex.cells) (ok := fun e => e.wide ∧ e.okc) (fun x hx => by
      obtain ⟨y, hy, h1, h2⟩ := ih m' (by omega) x (hes x hx).2
      exact ⟨y, hy, h1, h2⟩)
    rw [bytes80, List.length_map] at hb
    refine ⟨.mk op nn v l, ?_, ⟨?_, ?_⟩, ok_okV ov, ?_⟩
    · rw [cells_mk]
    · unfold wideN; have : reachBytes = 140737488351232 := by decide
      omega
    · exact wideL_of fun x hx => (hlk x hx).1
    · exact okcL_of fun x hx => (hlk x hx).2
theorem fits80 {n : Nat} {x : PV} (h : FitsA Tryz.prog n 26 x) : ∃ op m vk vn vs ar, x = .agg [.int .i64 op, .int .i64 m, .int .i64 vk, .int .i64 vn, .str vs, .sl (ar.map Ex.cells)] ∧ (Ex.mk op m ⟨vk, vn, vs⟩ ar).wide ∧ (Ex.mk op m ⟨vk, vn, vs⟩ ar).okc := by
  obtain ⟨cs, rfl, g⟩ := h.agg Tryz.underlying26
  obtain ⟨⟨op, m, ⟨vk, vn, vs⟩, ar⟩, rfl, h1, h2⟩ := exOf _ _ g
  exact ⟨op, m, vk, vn, vs, ar, by rw [cells_mk], h1, h2⟩
theorem row_ok {l : List Val} (h : ∀ v, v ∈ l → v.ok) : rowOk l := fun v hv => ok_okV (h v hv)
end Go.Proofs.YtnhmnfokbinplaaGreat

namespace Go.Proofs.YtnhmnfokbinplaaGreat
open Go Go.RowKit
set_option maxRecDepth 100000
set_option linter.unusedSimpArgs false
set_option linter.unusedVariables false

mutual
theorem wide_copy : ∀ e : Ex, e.wide → (mapE id e).wide
  | .mk op n v ar, h => by
    rw [mapE]
    show wideN (mapL id ar).length ∧ wideL (mapL id ar)
    exact ⟨by rw [mapL_eq, List.length_map]; exact h.1, wide_copyL ar h.2⟩
theorem wide_copyL : ∀ l : List Ex, wideL l → wideL (mapL id l)
  | [], _ => trivial
  | e :: r, h => ⟨wide_copy e h.1, wide_copyL r h.2⟩
end
theorem okV_nV {op : Int} {v : Val} (h : okV v) : okV (nV op v) := by
  unfold nV
  split
  · exact okV_zero
  · split
    · exact okV_clean h
    · exact okV_zero
mutual
theorem okc_copy : ∀ e : Ex, e.okc → (mapE id e).okc
  | .mk op n v ar, h => by
    rw [mapE_mk, ← mapL_eq]
    exact ⟨okV_nV h.1, okc_copyL ar h.2⟩
theorem okc_copyL : ∀ l : List Ex, okcL l → okcL (mapL id l)
  | [], _ => trivial
  | e :: r, h => ⟨okc_copy e h.1, okc_copyL r h.2⟩
end
mutual
theorem parts_ok : ∀ e : Ex, e.wide → e.okc → ∀ p, p ∈ partsM e → p.wide ∧ p.okc
  | .mk op n v ar, hw, ho, p, hp => by
    rw [partsM] at hp
    split at hp
    · exact parts_okL ar hw.2 ho.2 p hp
    · simp only [List.mem_singleton] at hp
      subst hp
      exact ⟨wide_copy _ hw, okc_copy _ ho⟩
theorem parts_okL : ∀ l : List Ex, wideL l → okcL l → ∀ p, p ∈ partsL l → p.wide ∧ p.okc
  | [], _, _, p, hp => by simp [partsL] at hp
  | e :: r, hw, ho, p, hp => by
    rw [partsL, List.mem_append] at hp
    rcases hp with hp | hp
    · exact parts_ok e hw.1 ho.1 p hp
    · exact parts_okL r hw.2 ho.2 p hp
end
theorem built_two {n : Int} {v : Val} {ar : List Ex} (hb : builtM (.mk 19 n v ar) = true) : ∃ a b, ar = [a, b] ∧ builtM a = true ∧ builtM b = true := by
  obtain ⟨hbad, hbs⟩ := built_mk hb
  have ha := badE_arity hbad
  have hl : ar.length = 2 := by simp [arityE] at ha; omega
  match ar, hl, hbs with
  | [a, b], _, hbs => exact ⟨a, b, rfl, hbs a (by simp), hbs b (by simp)⟩
theorem parts_c (op n vk vn : Int) (vs : ByteArray) (ar : List Ex) (es : List (List PV)) (hes : ar.map Ex.cells = es) (hw : (Ex.mk op n ⟨vk, vn, vs⟩ ar).wide)
    (IH : ∀ x, x ∈ ar → TCall Tryz.prog 15 [.agg x.cells] (fun l => l = (partsM x).map Ex.cells) 6) :
    TCall Tryz.prog 15 [.agg [.int .i64 op, .int .i64 n, .int .i64 vk, .int .i64 vn, .str vs, .sl es]] (fun l => l = (partsM (.mk op n ⟨vk, vn, vs⟩ ar)).map Ex.cells) 6 := by
  have hbt := ebuilt_c op n vk vn vs ar es hes
  have hcp' := copy_c op n vk vn vs ar es hes hw
  obtain ⟨q, hq⟩ : ∃ q, (partsM (.mk op n ⟨vk, vn, vs⟩ ar)).map Ex.cells = q := ⟨_, rfl⟩
  rw [hq]
  rw [partsM] at hq
  have h2 : ∀ z, builtM (.mk op n ⟨vk, vn, vs⟩ ar) = z → (!z) = false → (!decide (op = 19)) = false → ∃ a b, es = [a.cells, b.cells] ∧ (partsM a).map Ex.cells ++ (partsM b).map Ex.cells = q ∧ (partsM a).length + (partsM b).length ≤ 400 ∧
      (TCall Tryz.prog 15 [.agg a.cells] (fun l => l = (partsM a).map Ex.cells) 6) ∧ TCall Tryz.prog 15 [.agg b.cells] (fun l => l = (partsM b).map Ex.cells) 6 := by
    intro z h1 h2 h3
    have hb : builtM (.mk op n ⟨vk, vn, vs⟩ ar) = true := by rw [h1]; simpa using h2
    have h19 : op = 19 := by simpa using h3
    subst h19
    have hs := built_sz hb
    obtain ⟨a, b, rfl, _, _⟩ := built_two hb
    refine ⟨a, b, hes.symm, ?_, ?_, IH a (by simp), IH b (by simp)⟩
    · rw [← hq, if_pos ⟨hb, rfl⟩]; simp [partsL]
    · have h1 := partsL_len [a, b]
      simp only [partsL, List.length_append, List.append_nil, List.length_nil, szL, Ex.sz] at h1 hs
      omega
  have h1 : ∀ z, builtM (.mk op n ⟨vk, vn, vs⟩ ar) = z → (!z) = true ∨ (!decide (op = 19)) = true → [(mapE id (.mk op n ⟨vk, vn, vs⟩ ar)).cells] = q := by
    intro z hz h
    rw [← hq, if_neg]
    · rfl
    · rintro ⟨x, y⟩
      rw [← hz, x] at h
      simp [y] at h
  clear hq
  refine TCall.x (nt := 25) (res := [.tmp 2]) mixed tt_ok [] Tryz.func15 rfl rfl rfl c15 (Nat.le_of_ble_eq_true rfl) ?_
  intro cp cc lp Q' hcp hcc hlp hQ
  repeat' (first
    | (with_reducible refine Nm.mk ?_; intro z hz)
    | (with_reducible refine IfB.mk ?_ ?_ <;> (intro h; cases h))
    | (with_reducible refine Two.l ?_; refine Asm.mk ?_ ?_; focus (decide +kernel))
    | (with_reducible refine Two.r ?_)
    | (with_reducible refine Asm.mk ?_ ?_; focus (first | kernel_rfl | decide))
    | (with_reducible refine isCP hcp ?_; first | (refine bP hcp (hbt) ?_; intro z hz) | (refine exP hcp (hcp') ?_; intro op2 n2 vk2 vn2 vs2 ar2 es2 hX hes2))
    | (with_reducible refine isCC hcc ?_; first | (refine bA hcc (hbt) rfl ?_; intro z hz) | (refine exA hcc (hcp') rfl ?_; intro op2 n2 vk2 vn2 vs2 ar2 es2 hX hes2))
    | (with_reducible refine Asm.mk2 ?_ ?_)
    | ((fail_if_success (with_reducible first | refine hQ _ ?_ | refine Side.mk ?_ | refine isCP hcp ?_ | refine isCC hcc ?_ | refine isLP hlp ?_ | refine Ix.mk ?_ | refine SIx.mk ?_ | refine SEx.mk ?_ | refine EIx.mk ?_ | refine RIx.mk ?_ | show False | refine hR ?_ _ ?_ ?_ ?_ ?_ ?_ | refine hR2 ?_ _ ?_ ?_ ?_ ?_ ?_)); cbv))
  · refine hQ _ ?_
    rw [← h1 _ (by assumption) (.inl (by assumption)), hX, cells_mk, hes2]
  · refine hQ _ ?_
    rw [← h1 _ (by assumption) (.inr (by assumption)), hX, cells_mk, hes2]
  · obtain ⟨a, b, he, hab, hlen, ta, tb⟩ := h2 _ (by assumption) (by assumption) (by assumption)
    obtain ⟨oa, na, ⟨ka, ma, sa⟩, ra⟩ := a
    obtain ⟨ob, nb, ⟨kb, mb, sb⟩, rb⟩ := b
    have hA0 : es[0]? = some (Ex.mk oa na ⟨ka, ma, sa⟩ ra).cells := by rw [he]; rfl
    have hA1 : es[1]? = some (Ex.mk ob nb ⟨kb, mb, sb⟩ rb).cells := by rw [he]; rfl
    clear h1 h2
    have oka := okEs_cells (partsM (Ex.mk oa na ⟨ka, ma, sa⟩ ra))
    have okb := okEs_cells (partsM (Ex.mk ob nb ⟨kb, mb, sb⟩ rb))
    obtain ⟨PA, hPA⟩ : ∃ x, (partsM (Ex.mk oa na ⟨ka, ma, sa⟩ ra)).map Ex.cells = x := ⟨_, rfl⟩
    obtain ⟨PB, hPB⟩ : ∃ x, (partsM (Ex.mk ob nb ⟨kb, mb, sb⟩ rb)).map Ex.cells = x := ⟨_, rfl⟩
    have hl1 : PA.length + PB.length ≤ 400 := by rw [← hPA, ← hPB]; simpa using hlen
    rw [hPA] at ta oka hab
    rw [hPB] at tb okb hab
    rw [cells_mk] at ta tb hA0 hA1
    obtain ⟨ea, hea⟩ : ∃ x, ra.map Ex.cells = x := ⟨_, rfl⟩
    obtain ⟨eb, heb⟩ : ∃ x, rb.map Ex.cells = x := ⟨_, rfl⟩
    rw [hea] at ta hA0
    rw [heb] at tb hA1
    have hside : ∀ z1 z2 : List (List PV), PA = z1 → PB = z2 → z1.length = z1.length ∧ 6 = 6 ∧ okEs 6 z1 = true ∧ okEs 6 z2 = true ∧ z1.length + z2.length ≤ maxLen ∧ (z1.length + z2.length) * 72 ≤ 140737488355328 := by
      rintro z1 z2 rfl rfl
      refine ⟨rfl, rfl, oka, okb, ?_, ?_⟩
      · simp only [maxLen]; omega
      · omega
    repeat' (first
      | (with_reducible refine Nm.mk ?_; intro z hz)
      | (with_reducible refine IfB.mk ?_ ?_ <;> (intro h; cases h))
      | (with_reducible refine Two.l ?_; refine Asm.mk ?_ ?_; focus (decide +kernel))
      | (with_reducible refine Two.r ?_)
      | (with_reducible refine Asm.mk ?_ ?_; focus kernel_rfl)
      | (with_reducible refine isCP hcp ?_; first | (refine tP hcp (ta) ?_; intro z hz) | (refine tP hcp (tb) ?_; intro z hz))
      | (with_reducible refine isCC hcc ?_; first | (refine tA hcc (ta) rfl ?_; intro z mz hz hmz) | (refine tA hcc (tb) rfl ?_; intro z mz hz hmz))
      | (with_reducible refine Ix.el 0 (by decide) rfl hA0 rfl (by decide) ?_)
      | (with_reducible refine Ix.el 1 (by decide) rfl hA1 rfl (by decide) ?_)
      | (with_reducible refine Asm.mk2 ?_ ?_)
      | ((fail_if_success (with_reducible first | refine hQ _ ?_ | refine Side.mk ?_ | refine isCP hcp ?_ | refine isCC hcc ?_ | refine isLP hlp ?_ | refine Ix.mk ?_ | refine SIx.mk ?_ | refine SEx.mk ?_ | refine EIx.mk ?_ | refine RIx.mk ?_ | show False | refine hR ?_ _ ?_ ?_ ?_ ?_ ?_ | refine hR2 ?_ _ ?_ ?_ ?_ ?_ ?_)); cbv))
    · refine Side.mk ?_
      obtain ⟨u1, u2, u3⟩ := hside _ _ (by assumption) (by assumption)
      exact ⟨Eq.symm (by assumption), u2, u3⟩
    · refine Side.mk ?_
      clear hQ
      subst_vars
      exact ⟨by simp, rfl⟩
    · refine hQ _ ?_
      clear hQ
      subst_vars
      rfl
theorem parts_all : ∀ (m : Nat) (e : Ex), e.sz ≤ m → e.wide → TCall Tryz.prog 15 [.agg e.cells] (fun l => l = (partsM e).map Ex.cells) 6
  | 0, .mk op n v ar, h, _ => by simp [Ex.sz] at h
  | m + 1, .mk op n ⟨vk, vn, vs⟩ ar, h, hw => by
    rw [cells_mk]
    refine parts_c op n vk vn vs ar _ rfl hw fun x hx => parts_all m x ?_ (wide_mem hw.2 hx)
    have := sz_mem hx
    simp only [Ex.sz] at h; omega
theorem partsP_c (op n vk vn : Int) (vs : ByteArray) (ar : List Ex) (es : List (List PV)) (hes : ar.map Ex.cells = es) (hw : (Ex.mk op n ⟨vk, vn, vs⟩ ar).wide) :
    PCall Tryz.prog 15 [.agg [.int .i64 op, .int .i64 n, .int .i64 vk, .int .i64 vn, .str vs, .sl es]] fun r => r = [.sl ((partsM (.mk op n ⟨vk, vn, vs⟩ ar)).map Ex.cells)] := by
  have h := (parts_all _ _ (Nat.le_refl _) hw).pure
  rw [cells_mk, hes] at h
  exact h.mono fun r hr => by obtain ⟨L, rfl, rfl⟩ := hr; rfl

theorem parts_400 (e : Ex) : (partsM e).length ≤ 400 := by
  obtain ⟨op, n, v, ar⟩ := e
  rw [partsM]
  split
  · rename_i h
    have h1 := built_sz h.1
    have h2 := partsL_len ar
    simp only [Ex.sz] at h1; omega
  · simp

end Go.Proofs.YtnhmnfokbinplaaGreat

namespace Go.Proofs.YtnhmnfokbinplaaGreat
open Go Go.RowKit
set_option maxRecDepth 100000
set_option linter.unusedSimpArgs false
set_option linter.unusedVariables false

/-! ### plain -/
theorem arity_le (op : Int) : arityE op ≤ 3 := by unfold arityE; (repeat' split) <;> omega
mutual
theorem good_wide : ∀ e : Ex, goodE e = true → e.wide
  | .mk op n v ar, hg => by
    simp only [goodE, Bool.and_eq_true, Bool.not_eq_true'] at hg
    have h1 := badE_arity hg.1
    have h2 := arity_le op
    exact ⟨by unfold wideN; omega, good_wideL ar hg.2⟩
theorem good_wideL : ∀ l : List Ex, goodL l = true → wideL l
  | [], _ => trivial
  | e :: r, hg => by
    simp only [goodL, Bool.and_eq_true] at hg
    exact ⟨good_wide e hg.1, good_wideL r hg.2⟩
end
mutual
theorem okV_eval {col : Int → Val} (hc : ∀ n, okV (col n)) : ∀ e : Ex, e.okc → okV (evalE col e)
  | .mk op n v ar, h => by
    rw [evalE]
    exact okV_evOp (fun _ => hc n) h.1 (okV_evalL hc ar h.2)
theorem okV_evalL {col : Int → Val} (hc : ∀ n, okV (col n)) : ∀ l : List Ex, okcL l → ∀ x, x ∈ evalL col l → okV x
  | [], _, x, hx => by simp [evalL] at hx
  | e :: r, h, x, hx => by
    simp only [evalL, List.mem_cons] at hx
    rcases hx with rfl | hx
    · exact okV_eval hc e h.1
    · exact okV_evalL hc r h.2 x hx
end
theorem okc_const {v : Val} (h : okV v) : (constE v).okc := ⟨h, trivial⟩
theorem okc_getD {l : List Ex} (h : okcL l) (i : Nat) : ((l[i]?).getD zeroE).okc := by
  cases hi : l[i]? with
  | none => exact ⟨okV_zero, trivial⟩
  | some x => exact okc_mem h (List.mem_of_getElem? hi)
theorem foldN_okc {op n : Int} {v : Val} {ar : List Ex} (hv : okV v) (ha : okcL ar) : (foldN (.mk op n v ar)).okc := by
  rw [foldN]
  split
  · exact ⟨hv, ha⟩
  split
  · exact okc_const (okV_eval (fun _ => okV_zero) _ ⟨hv, ha⟩)
  split
  · exact okc_const (okV_num (by decide))
  split
  · exact okc_const (okV_num (by decide))
  split
  · split
    · exact okc_getD ha 1
    · exact okc_getD ha 2
  · exact ⟨hv, ha⟩
mutual
theorem fold_okc : ∀ e : Ex, e.okc → (mapE foldN e).okc
  | .mk op n v ar, h => by
    rw [mapE_mk, ← mapL_eq]
    exact foldN_okc (okV_nV h.1) (fold_okcL ar h.2)
theorem fold_okcL : ∀ l : List Ex, okcL l → okcL (mapL foldN l)
  | [], _ => trivial
  | e :: r, h => ⟨fold_okc e h.1, fold_okcL r h.2⟩
end
def FoldC (e : Ex) : Prop := goodE e = true ∧ e.okc
mutual
theorem fold_cond : ∀ e : Ex, goodE e = true → e.okc → CondE FoldC foldN e
  | .mk op n v ar, hg, ho => by
    simp only [goodE, Bool.and_eq_true, Bool.not_eq_true'] at hg
    obtain ⟨i1, _, _⟩ := fold_lessL ar hg.2
    refine ⟨⟨?_, ?_⟩, fold_condL ar hg.2 ho.2⟩
    · have hb := badE_norm op n v (mapL foldN ar).length
      have hb2 := hg.1
      rw [show ar.length = (mapL foldN ar).length by rw [mapL_eq, List.length_map], ← hb] at hb2
      rw [goodE]
      have e : badE op (if op = 1 then n else 0) (if op = 1 then Val.zero else if op = 2 then clean v else Val.zero) (mapL foldN ar).length = false := hb2
      rw [e, i1]; rfl
    · exact ⟨okV_nV ho.1, fold_okcL ar ho.2⟩
theorem fold_condL : ∀ l : List Ex, goodL l = true → okcL l → CondL FoldC foldN l
  | [], _, _ => trivial
  | e :: r, hg, ho => by
    simp only [goodL, Bool.and_eq_true] at hg
    exact ⟨fold_cond e hg.1 ho.1, fold_condL r hg.2 ho.2⟩
end
theorem foldM_ok {e : Ex} (hw : e.wide) (ho : e.okc) : (foldM e).wide ∧ (foldM e).okc := by
  unfold foldM
  split
  · rename_i h
    exact ⟨good_wide _ (fold_less e (good_of_built h)).1, fold_okc e ho⟩
  · exact ⟨wide_copy e hw, okc_copy e ho⟩

/-! ### the walk -/
def idxI {α : Type} (p : α → Bool) : List α → Int → Int
  | [], _ => -1
  | x :: r, i => if p x = true then i else idxI p r (i + 1)
theorem idxI_any {α : Type} (p : α → Bool) : ∀ (l : List α) (i : Int), 0 ≤ i → (0 ≤ idxI p l i ↔ l.any p = true)
  | [], i, h => by simp [idxI]
  | x :: r, i, h => by
    rw [idxI, List.any_cons]
    cases hx : p x with
    | true => simp [h]
    | false => simp [idxI_any p r (i + 1) (by omega)]
theorem indexFunc_c (k : Nat) (caps : List PV) (p : Ex → Bool) (ar : List Ex) (es : List (List PV)) (hes : ar.map Ex.cells = es) (hs : wideN ar.length)
    (hp : ∀ e, e ∈ ar → PCall Tryz.prog k (.agg e.cells :: caps) fun r => r = [.bool (p e)]) : PCall Tryz.prog 92 [.sl es, .fn k caps] fun r => r = [.int .i64 (idxI p ar 0)] := by
  have hel : es.length = ar.length := by rw [← hes]; simp
  unfold wideN at hs
  obtain ⟨q, hq⟩ : ∃ q, idxI p ar 0 = q := ⟨_, rfl⟩
  rw [hq]
  have hpc : ∀ (op' m' vk' vn' : Int) (vs' : ByteArray) (ar' : List Ex) (es' : List (List PV)) (i : Nat), ar[i]? = some (.mk op' m' ⟨vk', vn', vs'⟩ ar') → ar'.map Ex.cells = es' →
      PCall Tryz.prog k (.agg [.int .i64 op', .int .i64 m', .int .i64 vk', .int .i64 vn', .str vs', .sl es'] :: caps) fun r => r = [.bool (p (.mk op' m' ⟨vk', vn', vs'⟩ ar'))] := by
    intro op' m' vk' vn' vs' ar' es' i hx he
    have := hp _ (List.mem_of_getElem? hx)
    rw [cells_mk, he] at this
    exact this
  refine PCall.x (nt := 19) (res := [.tmp 4]) mixed tt_ok [] Tryz.func92 rfl rfl rfl c92 (Nat.le_of_ble_eq_true rfl) ?_
  intro cp cc lp Q' hcp hcc hlp hQ
  repeat' (first
    | (with_reducible refine Nm.mk ?_; intro z hz)
    | (with_reducible refine IfB.mk ?_ ?_ <;> (intro h; cases h))
    | (with_reducible refine Two.l ?_; refine Asm.mk ?_ ?_; focus (decide +kernel))
    | (with_reducible refine Two.r ?_)
    | (with_reducible refine Asm.mk ?_ ?_; focus (first | kernel_rfl | decide))
    | (with_reducible refine Asm.mk2 ?_ ?_)
    | ((fail_if_success (with_reducible first | refine hQ _ ?_ | refine Side.mk ?_ | refine isCP hcp ?_ | refine isCC hcc ?_ | refine isLP hlp ?_ | refine Ix.mk ?_ | refine SIx.mk ?_ | refine SEx.mk ?_ | refine EIx.mk ?_ | refine RIx.mk ?_ | show False | refine hR ?_ _ ?_ ?_ ?_ ?_ ?_ | refine hR2 ?_ _ ?_ ?_ ?_ ?_ ?_)); cbv))
  simp only [nc] at hz
  simp only [nc'] at hz
  have hzl := hz
  clear hz
  rename Int => zl
  refine loopK (ι := Int) mixed tt_ok hcp hcc hlp [0, 1, 7] (fun i => [(8, .p (.int .i64 i))]) (fun i => 0 ≤ i ∧ i ≤ zl ∧ idxI p (ar.drop i.toNat) i = q) (fun i => (zl - i).toNat) 0 (fun _ => rfl) ⟨by omega, by omega, hq⟩ ⟨rfl, trivial⟩ ?_
  rintro R i ⟨hi0, hi1, hiq⟩ hR
  have hk : decide (i < zl) = true → i < ar.length := by simp only [decide_eq_true_eq]; omega
  have hst : decide (i < zl) = true → IntKind.i64.wrap (i + 1) = i + 1 ∧ (0 ≤ i + 1 ∧ i + 1 ≤ zl) ∧ (zl - (i + 1)).toNat < (zl - i).toNat := by
    intro h
    have hlt := hk h
    simp only [decide_eq_true_eq] at h
    exact ⟨wrap_in (by omega), by omega, by omega⟩
  have hstep : ∀ x, ar[i.toNat]? = some x → q = if p x = true then i else idxI p (ar.drop (i + 1).toNat) (i + 1) := by
    intro x hx
    have hlt := (List.getElem?_eq_some_iff.1 hx).1
    rw [← hiq, List.drop_eq_getElem_cons hlt, show (i + 1).toNat = i.toNat + 1 by omega, idxI]
    rw [(List.getElem?_eq_some_iff.1 hx).2]
  have hfin : decide (i < zl) = false → q = -1 := by
    simp only [decide_eq_false_iff_not]; intro h
    rw [← hiq, List.drop_eq_nil_of_le (by omega)]; rfl
  repeat' (first
    | (with_reducible refine Nm.mk ?_; intro z hz)
    | (with_reducible refine IfB.mk ?_ ?_ <;> (intro h; cases h))
    | (with_reducible refine Two.l ?_; refine Asm.mk ?_ ?_; focus (decide +kernel))
    | (with_reducible refine Two.r ?_)
    | (with_reducible refine Asm.mk ?_ ?_; focus kernel_rfl)
    | (with_reducible refine Ix.ex hes hi0 (hk (by assumption)) ?_; intro op' m' vk' vn' vs' ar' es' hx hes')
    | (with_reducible refine isCC hcc ?_; refine bA hcc (hpc _ _ _ _ _ _ _ i.toNat (by assumption) (by assumption)) (hb1 rfl) ?_; intro z hz)
    | (with_reducible refine Asm.mk2 ?_ ?_)
    | ((fail_if_success (with_reducible first | refine hQ _ ?_ | refine Side.mk ?_ | refine isCP hcp ?_ | refine isCC hcc ?_ | refine isLP hlp ?_ | refine Ix.mk ?_ | refine SIx.mk ?_ | refine SEx.mk ?_ | refine EIx.mk ?_ | refine RIx.mk ?_ | show False | refine hR ?_ _ ?_ ?_ ?_ ?_ ?_ | refine hR2 ?_ _ ?_ ?_ ?_ ?_ ?_)); cbv))
  all_goals first
    | (have e := hstep _ hx
       obtain ⟨e1, u, mu⟩ := hst (by assumption)
       first
         | (refine hQ _ ?_
            rw [e, if_pos (by assumption)])
         | (rw [e1] at hz
            have hp0 : p (.mk op' m' ⟨vk', vn', vs'⟩ ar') = false := by assumption
            rw [hp0, if_neg (by decide)] at e
            exact hR (i + 1) _ ⟨u.1, u.2, e.symm⟩ mu ⟨hz ▸ rfl, trivial⟩ ⟨rfl, rfl, rfl, trivial⟩ rfl))
    | (refine hQ _ ?_
       rw [hfin (by assumption)])
theorem containsFunc_c (k : Nat) (caps : List PV) (p : Ex → Bool) (ar : List Ex) (es : List (List PV)) (hes : ar.map Ex.cells = es) (hs : wideN ar.length)
    (hp : ∀ e, e ∈ ar → PCall Tryz.prog k (.agg e.cells :: caps) fun r => r = [.bool (p e)]) : PCall Tryz.prog 46 [.sl es, .fn k caps] fun r => r = [.bool (ar.any p)] := by
  have h := indexFunc_c k caps p ar es hes hs hp
  have ha := idxI_any p ar 0 (by decide)
  refine PCall.x (nt := 9) (res := [.tmp 4]) mixed tt_ok [] Tryz.func46 rfl rfl rfl c46 (Nat.le_of_ble_eq_true rfl) ?_
  intro cp cc lp Q' hcp hcc hlp hQ
  repeat' (first
    | (with_reducible refine Nm.mk ?_; intro z hz)
    | (with_reducible refine IfB.mk ?_ ?_ <;> (intro h; cases h))
    | (with_reducible refine Two.l ?_; refine Asm.mk ?_ ?_; focus (decide +kernel))
    | (with_reducible refine Two.r ?_)
    | (with_reducible refine Asm.mk ?_ ?_; focus (first | kernel_rfl | decide))
    | (with_reducible refine isCP hcp ?_; first | (refine iP hcp (h) ?_; intro z hz))
    | (with_reducible refine isCC hcc ?_; first | (refine iA hcc (h) rfl ?_; intro z hz))
    | (with_reducible refine Asm.mk2 ?_ ?_)
    | ((fail_if_success (with_reducible first | refine hQ _ ?_ | refine Side.mk ?_ | refine isCP hcp ?_ | refine isCC hcc ?_ | refine isLP hlp ?_ | refine Ix.mk ?_ | refine SIx.mk ?_ | refine SEx.mk ?_ | refine EIx.mk ?_ | refine RIx.mk ?_ | show False | refine hR ?_ _ ?_ ?_ ?_ ?_ ?_ | refine hR2 ?_ _ ?_ ?_ ?_ ?_ ?_)); cbv))
  all_goals (refine hQ _ ?_; clear hQ hcp hcc hlp h hp; congr 2; subst_vars; rw [Bool.eq_iff_iff, ← ha]; simp)
end Go.Proofs.YtnhmnfokbinplaaGreat

namespace Go.Proofs.YtnhmnfokbinplaaGreat
open Go Go.RowKit
set_option maxRecDepth 100000
set_option linter.unusedSimpArgs false
set_option linter.unusedVariables false

theorem Ix.giveW {l : List (List PV)} {v : List Val} {n : Int} {K : List PV → Prop} (hl : v.map Val.cells = l) (h : 0 ≤ n ∧ n < v.length) (k : ∀ a b c, (v[n.toNat]?).getD Val.zero = ⟨a, b, c⟩ → K [.int .i64 a, .int .i64 b, .str c]) : Ix 3 l n K := by
  have hlt : n.toNat < v.length := by omega
  have hx : v[n.toNat]? = some v[n.toNat] := List.getElem?_eq_getElem hlt
  refine ⟨v[n.toNat].cells, h.1, by rw [← hl, List.getElem?_map, hx]; rfl, rfl, by decide, k _ _ _ ?_⟩
  rw [hx]; rfl
theorem Ix.giveE {es : Nat} {l : List (List PV)} {n : Int} {K : List PV → Prop} {e : List PV} (h0 : 0 ≤ n) (h : l[n.toNat]? = some e) (he : e.length = es) (hes : es ≠ 0) (k : K e) : Ix es l n K := ⟨⟨e, h0, h, he, hes, k⟩⟩
def EvalC (row : List Val) (R : List (List PV)) (e : Ex) : Prop := PCall Tryz.prog 36 [.agg e.cells, .sl R] fun r => r = [(evalE (colOf row) e).enc]
theorem okEs_vals (l : List Val) : okEs 3 (l.map Val.cells) = true := by
  simp only [okEs, List.all_map, List.all_eq_true]
  intro e _
  simp [Val.cells, PV.one]
def gL (l : List Val) (i : Nat) : Val := (l[i]?).getD Val.zero
set_option maxHeartbeats 8000000 in
theorem reval1_c (row : List Val) (R : List (List PV)) (hRw : row.map Val.cells = R) (hr : rowOk row) (op m vk vn : Int) (vs : ByteArray) (ar : List Ex) (es : List (List PV)) (hes : ar.map Ex.cells = es) (hg : goodE (.mk op m ⟨vk, vn, vs⟩ ar) = true) (ho : okcL ar) (hv0 : okV ⟨vk, vn, vs⟩)
    (IH : ∀ x, x ∈ ar → EvalC row R x) : PCall Tryz.prog 36 [.agg [.int .i64 op, .int .i64 m, .int .i64 vk, .int .i64 vn, .str vs, .sl es], .sl R] fun r => r = [(evalE (colOf row) (.mk op m ⟨vk, vn, vs⟩ ar)).enc] := by
  have hel : es.length = ar.length := by rw [← hes]; simp
  have hRl : R.length = row.length := by rw [← hRw]; simp
  rw [goodE, Bool.and_eq_true, Bool.not_eq_true'] at hg
  have hbad := hg.1
  have har := badE_arity hbad
  clear hg
  have hm0 : decide (op = 1) = true → 0 ≤ m := by
    intro h
    have h1 := of_decide_eq_true h
    simp only [badE, Bool.or_eq_false_iff, Bool.and_eq_false_iff, decide_eq_false_iff_not] at hbad
    rcases hbad.1.2 with h2 | h2
    · exact absurd h1 h2
    · omega
  clear hbad
  have ha3 : 0 ≤ arityE op ∧ arityE op ≤ 3 := by rw [har]; refine ⟨by omega, ?_⟩; rw [← har]; unfold arityE; (repeat' split) <;> omega
  have hopr : 1 ≤ op ∧ op ≤ 21 := by
    have := ha3.1
    unfold arityE at this
    (repeat' split at this) <;> omega
  have hal2 : ar.length = (arityE op).toNat := by omega
  obtain ⟨V, hV⟩ : ∃ V, evalL (colOf row) ar = V := ⟨_, rfl⟩
  have hVl : V.length = ar.length := by rw [← hV, evalL_eq]; simp
  have hVok : ∀ x, x ∈ V → okV x := by rw [← hV]; exact okV_evalL (fun n => okV_colOf hr n) ar ho
  obtain ⟨CV, hCV⟩ : ∃ C, V.map Val.cells = C := ⟨_, rfl⟩
  obtain ⟨⟨k0, n0, s0⟩, hy0⟩ : ∃ y, gL V 0 = y := ⟨_, rfl⟩
  obtain ⟨⟨k1, n1, s1⟩, hy1⟩ : ∃ y, gL V 1 = y := ⟨_, rfl⟩
  obtain ⟨⟨k2, n2, s2⟩, hy2⟩ : ∃ y, gL V 2 = y := ⟨_, rfl⟩
  have hok : ∀ i, okV (gL V i) := by
    intro i; rw [gL]
    cases h : V[i]? with
    | none => exact okV_zero
    | some x => exact hVok x (List.mem_of_getElem? h)
  have ok0 := hok 0
  have ok1 := hok 1
  rw [hy0] at ok0
  rw [hy1] at ok1
  have hget : ∀ i, i < V.length → CV[i]? = some (gL V i).cells := by
    intro i h; rw [← hCV, List.getElem?_map, gL, List.getElem?_eq_getElem h]; rfl
  have i0 : 1 ≤ arityE op → CV[Int.toNat 0]? = some [.int .i64 k0, .int .i64 n0, .str s0] := by
    intro h; have := hget 0 (by omega); rw [hy0] at this; exact this
  have i1 : 2 ≤ arityE op → CV[Int.toNat 1]? = some [.int .i64 k1, .int .i64 n1, .str s1] := by
    intro h; have := hget 1 (by omega); rw [hy1] at this; exact this
  have i2 : 3 ≤ arityE op → CV[Int.toNat 2]? = some [.int .i64 k2, .int .i64 n2, .str s2] := by
    intro h; have := hget 2 (by omega); rw [hy2] at this; exact this
  have a1 : decide (op = 1) = false → decide (op = 2) = false → 1 ≤ arityE op := by
    simp only [decide_eq_false_iff_not]; intro h1 h2; unfold arityE; (repeat' split) <;> omega
  have a2 : decide (op = 1) = false → decide (op = 2) = false → decide (op = 3) = false → decide (op = 4) = false → decide (op = 5) = false → decide (op = 6) = false → 2 ≤ arityE op := by
    simp only [decide_eq_false_iff_not]; intro h1 h2 h3 h4 h5 h6; unfold arityE; (repeat' split) <;> omega
  have a3 : decide (op ≤ 20) = false → 3 ≤ arityE op := by
    simp only [decide_eq_false_iff_not]; intro h1; unfold arityE; (repeat' split) <;> omega
  have hx1 : In64 n0 := ok0.1
  have hx2 : In64 n1 := ok1.1
  have hn : ∀ v : Val, num 0 = v → In64 v.n := by rintro v rfl; exact ⟨by decide, by decide⟩
  have hs0 : s0.size ≤ 281474976710656 := by have := ok0.2; have h2 : s0.size ≤ 140737488355328 := this; omega
  have hs1 : s1.size ≤ 281474976710656 := by have := ok1.2; have h2 : s1.size ≤ 140737488355328 := this; omega
  clear hok
  obtain ⟨q, hq⟩ : ∃ q, evalE (colOf row) (.mk op m ⟨vk, vn, vs⟩ ar) = q := ⟨_, rfl⟩
  rw [hq]
  rw [evalE, hV] at hq
  refine PCall.x (nt := 149) (res := [.cell 4 23]) mixed tt_ok [] Tryz.func36 rfl rfl rfl c36 (Nat.le_of_ble_eq_true rfl) ?_
  intro cp cc lp Q' hcp hcc hlp hQ
  repeat' (first
    | (with_reducible refine Nm.mk ?_; intro z hz)
    | (with_reducible refine IfB.mk ?_ ?_ <;> (intro h; cases h))
    | (with_reducible refine Two.l ?_; refine Asm.mk ?_ ?_; focus (decide +kernel))
    | (with_reducible refine Two.r ?_)
    | (with_reducible refine Asm.mk ?_ ?_; focus (first | kernel_rfl | decide))
    | (with_reducible refine Asm.mk2 ?_ ?_)
    | ((fail_if_success (with_reducible first | refine hQ _ ?_ | refine Side.mk ?_ | refine isCP hcp ?_ | refine isCC hcc ?_ | refine isLP hlp ?_ | refine Ix.mk ?_ | refine SIx.mk ?_ | refine SEx.mk ?_ | refine EIx.mk ?_ | refine RIx.mk ?_ | show False | refine hR ?_ _ ?_ ?_ ?_ ?_ ?_ | refine hR2 ?_ _ ?_ ?_ ?_ ?_ ?_)); cbv))
  simp only [nc] at hz
  simp only [nc'] at hz
  have hzl := lenZ (n := ar.length) hel hz
  clear hz
  generalize z = zl at *
  refine mintT hlp 3 5 rfl ?_
  refine loopT (ι := Int × List (List PV) × Nat) mixed tt_ok hcp hcc hlp [1, 2, 4, 9, 10] (fun p => [(5, .tok 2 p.2.1), (11, .p (.int .i64 p.1))]) (fun p => [.cells [.p (.int .i64 op), .p (.int .i64 m), .p (.int .i64 vk), .p (.int .i64 vn), .p (.str vs), .p (.sl es)], .cells [.p (.int .i64 0), .p (.int .i64 0), .p (.str ⟨⟨[]⟩⟩)], .spare p.2.2 3])
    (fun p => Rng ar.length zl p.1 ∧ (V.take p.1.toNat).map Val.cells = p.2.1 ∧ p.2.1.length = p.2.2) (fun p => (zl - p.1).toNat) (0, [], 0) 3 (fun _ => rfl) ⟨Rng.start hzl (by omega), rfl, rfl⟩ ⟨rfl, rfl, trivial⟩ rfl ?_
  rintro Q2 ⟨i, C1, m1⟩ ⟨rg, hC1, hm1⟩ hR
  replace rg : Rng ar.length zl i := rg
  replace hC1 : (V.take i.toNat).map Val.cells = C1 := hC1
  replace hm1 : C1.length = m1 := hm1
  have hoke : okEs 3 C1 = true := by rw [← hC1]; exact okEs_vals _
  have hCl : C1.length ≤ 3 := by rw [← hC1, List.length_map, List.length_take]; omega
  have hpc : ∀ (op' m' vk' vn' : Int) (vs' : ByteArray) (ar' : List Ex) (es' : List (List PV)), ar[i.toNat]? = some (.mk op' m' ⟨vk', vn', vs'⟩ ar') → ar'.map Ex.cells = es' →
      PCall Tryz.prog 36 [.agg [.int .i64 op', .int .i64 m', .int .i64 vk', .int .i64 vn', .str vs', .sl es'], .sl R] fun r => r = [(evalE (colOf row) (.mk op' m' ⟨vk', vn', vs'⟩ ar')).enc] := by
    intro op' m' vk' vn' vs' ar' es' hx he
    have := IH _ (List.mem_of_getElem? hx)
    rw [EvalC, cells_mk, he] at this
    exact this
  have hend : decide (i < zl) = false → C1 = CV := by
    intro h; rw [← hC1, rg.take_ hVl h, hCV]
  have j0 : decide (i < zl) = false → 1 ≤ arityE op → C1[Int.toNat 0]? = some [.int .i64 k0, .int .i64 n0, .str s0] := fun h g => by rw [hend h]; exact i0 g
  have j1 : decide (i < zl) = false → 2 ≤ arityE op → C1[Int.toNat 1]? = some [.int .i64 k1, .int .i64 n1, .str s1] := fun h g => by rw [hend h]; exact i1 g
  have j2 : decide (i < zl) = false → 3 ≤ arityE op → C1[Int.toNat 2]? = some [.int .i64 k2, .int .i64 n2, .str s2] := fun h g => by rw [hend h]; exact i2 g
  have hrow : decide (op = 1) = true → ∀ z : Int, (R.length : Int) = z → decide (z ≤ m) = false → 0 ≤ m ∧ m < row.length := by
    intro h z hz h2; have := hm0 h; simp only [decide_eq_false_iff_not] at h2; omega
  repeat' (first
    | (with_reducible refine Nm.mk ?_; intro z hz)
    | (with_reducible refine IfB.mk ?_ ?_ <;> (intro h; cases h))
    | (with_reducible refine Two.l ?_; refine Asm.mk ?_ ?_; focus (decide +kernel))
    | (with_reducible refine Two.r ?_)
    | (with_reducible refine Asm.mk ?_ ?_; focus (show (_ : Bool) = true; kernel_rfl))
    | (with_reducible refine isCP hcp ?_; first | (refine vP hcp (hpc _ _ _ _ _ _ _ (by assumption) (by assumption)) ?_; intro v hv) | (refine vP hcp (none_l) ?_; intro v hv) | (refine vP hcp (clean_l _ _ _) ?_; intro v hv) | (refine vP hcp (num_l _) ?_; intro v hv) | (refine vP hcp (rreckon_l _ _ _ _ _ _ _ (hn _ (by assumption)) hx1) ?_; intro v hv) | (refine vP hcp (rreckon_l _ _ _ _ _ _ _ hx1 hx2) ?_; intro v hv) | (refine vP hcp (rnot_l _ _ _) ?_; intro v hv) | (refine vP hcp (truth_l _) ?_; intro v hv) | (refine vP hcp (rtest_l _ _ _ _ _ _ _) ?_; intro v hv) | (refine vP hcp (rcat_l _ _ _ _ _ _ hs0 hs1) ?_; intro v hv) | (refine vP hcp (rboth_l _ _ _ _ _ _ _) ?_; intro v hv) | (refine bP hcp (rtrue_l _ _ _) ?_; intro z hz))
    | (with_reducible refine isCC hcc ?_; first | (refine vA hcc (hpc _ _ _ _ _ _ _ (by assumption) (by assumption)) rfl ?_; intro v hv) | (refine vA hcc (none_l) rfl ?_; intro v hv) | (refine vA hcc (clean_l _ _ _) rfl ?_; intro v hv) | (refine vA hcc (num_l _) rfl ?_; intro v hv) | (refine vA hcc (rreckon_l _ _ _ _ _ _ _ (hn _ (by assumption)) hx1) rfl ?_; intro v hv) | (refine vA hcc (rreckon_l _ _ _ _ _ _ _ hx1 hx2) rfl ?_; intro v hv) | (refine vA hcc (rnot_l _ _ _) rfl ?_; intro v hv) | (refine vA hcc (truth_l _) rfl ?_; intro v hv) | (refine vA hcc (rtest_l _ _ _ _ _ _ _) rfl ?_; intro v hv) | (refine vA hcc (rcat_l _ _ _ _ _ _ hs0 hs1) rfl ?_; intro v hv) | (refine vA hcc (rboth_l _ _ _ _ _ _ _) rfl ?_; intro v hv) | (refine bA hcc (rtrue_l _ _ _) rfl ?_; intro z hz))
    | (with_reducible refine Ix.ex hes rg.lo (rg.lt (by assumption)) ?_; intro op' m' vk' vn' vs' ar' es' hx hes')
    | (with_reducible refine Ix.giveW hRw (hrow (by assumption) _ (by assumption) (by assumption)) ?_; intro ra rb rc hrx)
    | (with_reducible refine Ix.giveE (by decide) (j0 (by assumption) (a1 (by assumption) (by assumption))) rfl (by decide) ?_)
    | (with_reducible refine Ix.giveE (by decide) (j1 (by assumption) (a2 (by assumption) (by assumption) (by assumption) (by assumption) (by assumption) (by assumption))) rfl (by decide) ?_)
    | (with_reducible refine Ix.giveE (by decide) (j2 (by assumption) (a3 (by assumption))) rfl (by decide) ?_)
    | (with_reducible refine Asm.mk2 ?_ ?_)
    | ((fail_if_success (with_reducible first | refine hQ _ ?_ | refine Side.mk ?_ | refine isCP hcp ?_ | refine isCC hcc ?_ | refine isLP hlp ?_ | refine Ix.mk ?_ | refine SIx.mk ?_ | refine SEx.mk ?_ | refine EIx.mk ?_ | refine RIx.mk ?_ | show False | refine hR ?_ _ ?_ ?_ ?_ ?_ ?_ | refine hR2 ?_ _ ?_ ?_ ?_ ?_ ?_)); cbv))
  · refine Side.mk ⟨hm1.symm, rfl, hoke, rfl, ?_, ?_⟩ <;> (clear hR hQ; simp only [List.length_cons, List.length_nil, maxLen]; omega)
  · have hlt : decide (i < zl) = true := by assumption
    rw [rg.wrap hlt] at hz
    rename_i v hv C3 hC3 m3 hm3
    have hVi : V[i.toNat]? = some v := by rw [← hV, evalL_eq, List.getElem?_map, hx, ← hv]; rfl
    refine hR (i + 1, C3, m3) _ ⟨rg.next hlt, ?_, ?_⟩ (rg.less hlt) ⟨rfl, hz ▸ rfl, trivial⟩ ⟨rfl, rfl, rfl, rfl, rfl, trivial⟩ rfl
    · show (V.take (i + 1).toNat).map Val.cells = C3
      rw [rg.take hVi, List.map_append, hC1, ← hC3]; rfl
    · show C3.length = m3
      rw [← hC3, ← hm3, List.length_append]
  all_goals
    (have e0 : (V[0]?).getD Val.zero = ⟨k0, n0, s0⟩ := hy0
     have e1 : (V[1]?).getD Val.zero = ⟨k1, n1, s1⟩ := hy1
     have e2 : (V[2]?).getD Val.zero = ⟨k2, n2, s2⟩ := hy2
     refine hQ _ ?_
     rw [← hq]
     clear hQ hR hcp hcc hlp hpc IH j0 j1 j2 i0 i1 i2 a1 a2 a3 hget hend hm0 hn hs0 hs1 hx1 hx2 ok0 ok1 hy0 hy1 hy2 hq hVok hC1 hm1 hoke hCl hV
     show [PV.agg _] = [PV.agg _]
     rw [evOp]
     simp only [nc] at *
     simp only [nc'] at *
     simp only [decide_eq_true_eq, decide_eq_false_iff_not, Bool.not_eq_true', Bool.not_eq_false'] at *
     repeat (first | rw [if_pos (by omega)] | rw [if_neg (by omega)])
     first
       | (simp only [e0, e1, e2]; subst_vars; rfl)
       | (subst_vars; rfl)
       | (rw [colOf, if_pos (by omega)]; subst_vars; rfl)
       | (rw [colOf, if_neg (by omega), hrx]; subst_vars; rfl)
       | (simp only [e0, e1, e2]; simp only [vlenV]; first | rw [if_pos (by assumption)] | rw [if_neg (by assumption)]; subst_vars; rfl)
       | (simp only [e0, e1, e2]; first | rw [if_pos (by assumption)] | rw [if_neg (by rw [show trueV ⟨k0, n0, s0⟩ = false by assumption]; decide)]))
theorem reval_all (row : List Val) (R : List (List PV)) (hRw : row.map Val.cells = R) (hr : rowOk row) : ∀ (n : Nat) (e : Ex), e.sz ≤ n → goodE e = true → e.okc → EvalC row R e
  | 0, .mk op m v ar, h, _, _ => by simp [Ex.sz] at h
  | n + 1, .mk op m ⟨vk, vn, vs⟩ ar, h, hg, ho => by
    rw [EvalC, cells_mk]
    refine reval1_c row R hRw hr op m vk vn vs ar _ rfl hg ho.2 ho.1 fun x hx => reval_all row R hRw hr n x ?_ ?_ (okc_mem ho.2 hx)
    · have := sz_mem hx
      simp only [Ex.sz] at h; omega
    · rw [goodE, Bool.and_eq_true, goodL_all, List.all_eq_true] at hg
      exact hg.2 x hx
end Go.Proofs.YtnhmnfokbinplaaGreat
