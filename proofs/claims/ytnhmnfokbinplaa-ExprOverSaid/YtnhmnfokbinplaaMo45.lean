/- cell: Order, Test, Cat, True, with what they call; cell: Test, Cat, True; Expressions: what they are to the walk; their size; Expressions: their size, the walk; Expressions: Size, built; Expressions: mapped; Expressions: what they mean; what is built; parts; Expressions: the workers that compile makes; Expressions: compile, what it makes; Expressions: what is certainly null, what is certainly not true; Expressions: nodes, height, what is built; what is worked out ahead; Expressions: others put in for columns; Expressions: Eval; Expressions: tallyref's number of arguments; Expressions: tallyref's Size, plain: it is the other one's; Expressions: tallyref's Size, walked; Expressions: tallyref's ColumnsOf, its function; Expressions: tallyref's ColumnsOf; Expressions: tallyref's kindOf, its functions; Expressions: tallyref's Kind; vec: Table, of any columns; Expressions over columns, in plain terms; the workers at one row; Expressions: whether a column is lost, as the other text finds it; Expressions: kinds that do not fit, as the other text finds them; Expressions: the kind as the program works it out, plain; Expressions: the kind as the program works it out, walked; Expressions: the program's Kind; expr: Over; Expressions that came in: what they read as; Expressions: Parts; the law ExprParts; Expressions: Fold. Own work; no condition. -/
import Derived.Test.YtnhmnfokbinplaaMo41
import Derived.Test.YtnhmnfokbinplaaMo44
import Derived.Test.YtnhmnfokbinplaaAbsX
import Derived.Test.YtnhmnfokbinplaaAbs25
import Derived.Test.YtnhmnfokbinplaaAbsF
import Derived.Test.YtnhmnfokbinplaaAbsP
import Derived.Test.YtnhmnfokbinplaaAbsQ
namespace Go.Proofs.Ytnhmnfokbinplaa
open Go Go.RowKit
set_option maxRecDepth 100000
set_option linter.unusedSimpArgs false
set_option linter.unusedVariables false

def cmpS (a b : ByteArray) : Int := Lib.compareBytes a.data.toList b.data.toList
theorem cmpstr_c (a b : ByteArray) : PCall Try.prog 188 [.str a, .str b] fun r => r = [.int .i64 (cmpS a b)] :=
  PCall.ext (fn := Try.f188) (e := Extern.BytealgCompare.compare) (by kernel_rfl) Try.func188 (by kernel_rfl) rfl (by kernel_rfl) (by kernel_rfl) fun m w vals hv => by
    obtain ⟨u, v, rfl, h1, h2⟩ := args2 hv
    cases h1; cases h2
    exact ⟨_, Lib.run_compareString a b w, .p (.int _ _)⟩
theorem compareString_c (a b : ByteArray) : PCall Try.prog 155 [.str a, .str b] fun r => r = [.int .i64 (cmpS a b)] := by
  refine PCall.x (nt := 8) (res := [.tmp 4]) mixed tt_ok [] Try.func155 rfl rfl rfl c155 (Nat.le_of_ble_eq_true rfl) ?_
  intro cp cc lp Q' hcp hcc hlp hQ
  repeat' (first
    | (with_reducible refine Nm.mk ?_; intro z hz)
    | (with_reducible refine IfB.mk ?_ ?_ <;> (intro h; cases h))
    | (with_reducible refine Two.l ?_; refine Asm.mk ?_ ?_; focus (decide +kernel))
    | (with_reducible refine Two.r ?_)
    | (with_reducible refine Asm.mk ?_ ?_; focus (first | kernel_rfl | decide))
    | (with_reducible refine isCP hcp ?_; first | (refine iP hcp (cmpstr_c a b) ?_; intro z hz))
    | (with_reducible refine isCC hcc ?_; first | (refine iA hcc (cmpstr_c a b) rfl ?_; intro z hz))
    | (with_reducible refine Asm.mk2 ?_ ?_)
    | ((fail_if_success (with_reducible first | refine hQ _ ?_ | refine Side.mk ?_ | refine isCP hcp ?_ | refine isCC hcc ?_ | refine isLP hlp ?_ | refine Ix.mk ?_ | refine SIx.mk ?_ | refine SEx.mk ?_ | refine EIx.mk ?_ | refine RIx.mk ?_ | show False | refine hR ?_ _ ?_ ?_ ?_ ?_ ?_ | refine hR2 ?_ _ ?_ ?_ ?_ ?_ ?_)); cbv))
  all_goals (refine hQ _ ?_; clear hQ hcp hcc hlp; subst_vars; simp_all [])
theorem strCompare_c (a b : ByteArray) : PCall Try.prog 100 [.str a, .str b] fun r => r = [.int .i64 (cmpS a b)] := by
  refine PCall.x (nt := 8) (res := [.tmp 4]) mixed tt_ok [] Try.func100 rfl rfl rfl c100 (Nat.le_of_ble_eq_true rfl) ?_
  intro cp cc lp Q' hcp hcc hlp hQ
  repeat' (first
    | (with_reducible refine Nm.mk ?_; intro z hz)
    | (with_reducible refine IfB.mk ?_ ?_ <;> (intro h; cases h))
    | (with_reducible refine Two.l ?_; refine Asm.mk ?_ ?_; focus (decide +kernel))
    | (with_reducible refine Two.r ?_)
    | (with_reducible refine Asm.mk ?_ ?_; focus (first | kernel_rfl | decide))
    | (with_reducible refine isCP hcp ?_; first | (refine iP hcp (compareString_c a b) ?_; intro z hz))
    | (with_reducible refine isCC hcc ?_; first | (refine iA hcc (compareString_c a b) rfl ?_; intro z hz))
    | (with_reducible refine Asm.mk2 ?_ ?_)
    | ((fail_if_success (with_reducible first | refine hQ _ ?_ | refine Side.mk ?_ | refine isCP hcp ?_ | refine isCC hcc ?_ | refine isLP hlp ?_ | refine Ix.mk ?_ | refine SIx.mk ?_ | refine SEx.mk ?_ | refine EIx.mk ?_ | refine RIx.mk ?_ | show False | refine hR ?_ _ ?_ ?_ ?_ ?_ ?_ | refine hR2 ?_ _ ?_ ?_ ?_ ?_ ?_)); cbv))
  all_goals (refine hQ _ ?_; clear hQ hcp hcc hlp; subst_vars; simp_all [])
def cmpI (a b : Int) : Int := if a < b then -1 else if b < a then 1 else 0
theorem isNaN1 (a : Int) : PCall Try.prog 153 [.int .i64 a] fun r => r = [.bool false] := by
  refine PCall.x (nt := 6) (res := [.tmp 2]) mixed tt_ok [] Try.func153 rfl rfl rfl c153 (Nat.le_of_ble_eq_true rfl) ?_
  intro cp cc lp Q' hcp hcc hlp hQ
  repeat' (first
    | (with_reducible refine Nm.mk ?_; intro z hz)
    | (with_reducible refine IfB.mk ?_ ?_ <;> (intro h; cases h))
    | (with_reducible refine Two.l ?_; refine Asm.mk ?_ ?_; focus (decide +kernel))
    | (with_reducible refine Two.r ?_)
    | (with_reducible refine Asm.mk ?_ ?_; focus (first | kernel_rfl | decide))
    | (with_reducible refine Asm.mk2 ?_ ?_)
    | ((fail_if_success (with_reducible first | refine hQ _ ?_ | refine Side.mk ?_ | refine isCP hcp ?_ | refine isCC hcc ?_ | refine isLP hlp ?_ | refine Ix.mk ?_ | refine SIx.mk ?_ | refine SEx.mk ?_ | refine EIx.mk ?_ | refine RIx.mk ?_ | show False | refine hR ?_ _ ?_ ?_ ?_ ?_ ?_ | refine hR2 ?_ _ ?_ ?_ ?_ ?_ ?_)); cbv))
  all_goals (refine hQ _ ?_; clear hQ hcp hcc hlp; subst_vars; simp_all [])
theorem isNaN2 (a : Int) : PCall Try.prog 154 [.int .i64 a] fun r => r = [.bool false] := by
  refine PCall.x (nt := 6) (res := [.tmp 2]) mixed tt_ok [] Try.func154 rfl rfl rfl c154 (Nat.le_of_ble_eq_true rfl) ?_
  intro cp cc lp Q' hcp hcc hlp hQ
  repeat' (first
    | (with_reducible refine Nm.mk ?_; intro z hz)
    | (with_reducible refine IfB.mk ?_ ?_ <;> (intro h; cases h))
    | (with_reducible refine Two.l ?_; refine Asm.mk ?_ ?_; focus (decide +kernel))
    | (with_reducible refine Two.r ?_)
    | (with_reducible refine Asm.mk ?_ ?_; focus (first | kernel_rfl | decide))
    | (with_reducible refine Asm.mk2 ?_ ?_)
    | ((fail_if_success (with_reducible first | refine hQ _ ?_ | refine Side.mk ?_ | refine isCP hcp ?_ | refine isCC hcc ?_ | refine isLP hlp ?_ | refine Ix.mk ?_ | refine SIx.mk ?_ | refine SEx.mk ?_ | refine EIx.mk ?_ | refine RIx.mk ?_ | show False | refine hR ?_ _ ?_ ?_ ?_ ?_ ?_ | refine hR2 ?_ _ ?_ ?_ ?_ ?_ ?_)); cbv))
  all_goals (refine hQ _ ?_; clear hQ hcp hcc hlp; subst_vars; simp_all [])
theorem compare1_c (a b : Int) : PCall Try.prog 98 [.int .i64 a, .int .i64 b] fun r => r = [.int .i64 (cmpI a b)] := by
  refine PCall.x (nt := 20) (res := [.tmp 4]) mixed tt_ok [] Try.func98 rfl rfl rfl c98 (Nat.le_of_ble_eq_true rfl) ?_
  intro cp cc lp Q' hcp hcc hlp hQ
  repeat' (first
    | (with_reducible refine Nm.mk ?_; intro z hz)
    | (with_reducible refine IfB.mk ?_ ?_ <;> (intro h; cases h))
    | (with_reducible refine Two.l ?_; refine Asm.mk ?_ ?_; focus (decide +kernel))
    | (with_reducible refine Two.r ?_)
    | (with_reducible refine Asm.mk ?_ ?_; focus (first | kernel_rfl | decide))
    | (with_reducible refine isCP hcp ?_; first | (refine bP hcp (isNaN1 a) ?_; intro z hz) | (refine bP hcp (isNaN1 b) ?_; intro z hz))
    | (with_reducible refine isCC hcc ?_; first | (refine bA hcc (isNaN1 a) rfl ?_; intro z hz) | (refine bA hcc (isNaN1 b) rfl ?_; intro z hz))
    | (with_reducible refine Asm.mk2 ?_ ?_)
    | ((fail_if_success (with_reducible first | refine hQ _ ?_ | refine Side.mk ?_ | refine isCP hcp ?_ | refine isCC hcc ?_ | refine isLP hlp ?_ | refine Ix.mk ?_ | refine SIx.mk ?_ | refine SEx.mk ?_ | refine EIx.mk ?_ | refine RIx.mk ?_ | show False | refine hR ?_ _ ?_ ?_ ?_ ?_ ?_ | refine hR2 ?_ _ ?_ ?_ ?_ ?_ ?_)); cbv))
  all_goals (refine hQ _ ?_; clear hQ hcp hcc hlp; subst_vars; simp_all [cmpI]; try omega)
theorem compare2_c (a b : Int) : PCall Try.prog 99 [.int .i64 a, .int .i64 b] fun r => r = [.int .i64 (cmpI a b)] := by
  refine PCall.x (nt := 20) (res := [.tmp 4]) mixed tt_ok [] Try.func99 rfl rfl rfl c99 (Nat.le_of_ble_eq_true rfl) ?_
  intro cp cc lp Q' hcp hcc hlp hQ
  repeat' (first
    | (with_reducible refine Nm.mk ?_; intro z hz)
    | (with_reducible refine IfB.mk ?_ ?_ <;> (intro h; cases h))
    | (with_reducible refine Two.l ?_; refine Asm.mk ?_ ?_; focus (decide +kernel))
    | (with_reducible refine Two.r ?_)
    | (with_reducible refine Asm.mk ?_ ?_; focus (first | kernel_rfl | decide))
    | (with_reducible refine isCP hcp ?_; first | (refine bP hcp (isNaN2 a) ?_; intro z hz) | (refine bP hcp (isNaN2 b) ?_; intro z hz))
    | (with_reducible refine isCC hcc ?_; first | (refine bA hcc (isNaN2 a) rfl ?_; intro z hz) | (refine bA hcc (isNaN2 b) rfl ?_; intro z hz))
    | (with_reducible refine Asm.mk2 ?_ ?_)
    | ((fail_if_success (with_reducible first | refine hQ _ ?_ | refine Side.mk ?_ | refine isCP hcp ?_ | refine isCC hcc ?_ | refine isLP hlp ?_ | refine Ix.mk ?_ | refine SIx.mk ?_ | refine SEx.mk ?_ | refine EIx.mk ?_ | refine RIx.mk ?_ | show False | refine hR ?_ _ ?_ ?_ ?_ ?_ ?_ | refine hR2 ?_ _ ?_ ?_ ?_ ?_ ?_)); cbv))
  all_goals (refine hQ _ ?_; clear hQ hcp hcc hlp; subst_vars; simp_all [cmpI]; try omega)

def orI : List Int → Int
  | [] => 0
  | x :: r => if x = 0 then orI r else x
theorem or_c (l : List Int) (L : List (List PV)) (hL : l.map i64c = L) (hs : l.length ≤ 1000) : PCall Try.prog 97 [.sl L] fun r => r = [.int .i64 (orI l)] := by
  have hLl : L.length = l.length := by rw [← hL]; simp
  refine PCall.x (nt := 18) (res := [.tmp 2]) mixed tt_ok [] Try.func97 rfl rfl rfl c97 (Nat.le_of_ble_eq_true rfl) ?_
  intro cp cc lp Q' hcp hcc hlp hQ
  repeat' (first
    | (with_reducible refine Nm.mk ?_; intro z hz)
    | (with_reducible refine IfB.mk ?_ ?_ <;> (intro h; cases h))
    | (with_reducible refine Two.l ?_; refine Asm.mk ?_ ?_; focus (decide +kernel))
    | (with_reducible refine Two.r ?_)
    | (with_reducible refine Asm.mk ?_ ?_; focus (first | kernel_rfl | decide))
    | (with_reducible refine Asm.mk2 ?_ ?_)
    | ((fail_if_success (with_reducible first | refine hQ _ ?_ | refine Side.mk ?_ | refine isCP hcp ?_ | refine isCC hcc ?_ | refine isLP hlp ?_ | refine Ix.mk ?_ | refine SIx.mk ?_ | refine SEx.mk ?_ | refine EIx.mk ?_ | refine RIx.mk ?_ | show False | refine hR ?_ _ ?_ ?_ ?_ ?_ ?_ | refine hR2 ?_ _ ?_ ?_ ?_ ?_ ?_)); cbv))
  simp only [nc] at hz
  simp only [nc'] at hz
  refine loopK (ι := Int) mixed tt_ok hcp hcc hlp [3, 6, 7] (fun i => [(8, .p (.int .i64 i))]) (fun i => (0 ≤ i ∧ i ≤ z) ∧ orI (l.drop i.toNat) = orI l) (fun i => (z - i).toNat) 0 (fun _ => rfl) ⟨by omega, rfl⟩ ⟨rfl, trivial⟩ ?_
  intro R i hi hR
  have hi0 : 0 ≤ i := hi.1.1
  have hi1 : i ≤ z := hi.1.2
  have hd := hi.2
  have hk : decide (i < z) = true → i < l.length := by simp only [decide_eq_true_eq]; omega
  have hge : decide (i < z) = false → l.drop i.toNat = [] := by intro h; simp only [decide_eq_false_iff_not] at h; exact List.drop_eq_nil_of_le (by omega)
  have hst : decide (i < z) = true → IntKind.i64.wrap (i + 1) = i + 1 ∧ (0 ≤ i + 1 ∧ i + 1 ≤ z) ∧ (z - (i + 1)).toNat < (z - i).toNat := by
    intro h
    simp only [decide_eq_true_eq] at h
    exact ⟨wrap_in (by omega), by omega, by omega⟩
  have hdr : ∀ x, l[i.toNat]? = some x → l.drop i.toNat = x :: l.drop (i + 1).toNat := by
    intro x hx
    have hlt := (List.getElem?_eq_some_iff.1 hx).1
    rw [List.drop_eq_getElem_cons hlt, show (i + 1).toNat = i.toNat + 1 by omega]
    congr 1
    exact (List.getElem?_eq_some_iff.1 hx).2
  repeat' (first
    | (with_reducible refine Nm.mk ?_; intro z hz)
    | (with_reducible refine IfB.mk ?_ ?_ <;> (intro h; cases h))
    | (with_reducible refine Two.l ?_; refine Asm.mk ?_ ?_; focus (decide +kernel))
    | (with_reducible refine Two.r ?_)
    | (with_reducible refine Asm.mk ?_ ?_; focus kernel_rfl)
    | (with_reducible refine Ix.map hL i64c_len (by decide) hi0 (hk (by assumption)) ?_; intro x hx)
    | (with_reducible refine Asm.mk2 ?_ ?_)
    | ((fail_if_success (with_reducible first | refine hQ _ ?_ | refine Side.mk ?_ | refine isCP hcp ?_ | refine isCC hcc ?_ | refine isLP hlp ?_ | refine Ix.mk ?_ | refine SIx.mk ?_ | refine SEx.mk ?_ | refine EIx.mk ?_ | refine RIx.mk ?_ | show False | refine hR ?_ _ ?_ ?_ ?_ ?_ ?_ | refine hR2 ?_ _ ?_ ?_ ?_ ?_ ?_)); cbv))
  · refine hQ _ ?_
    rw [← hd, hdr x hx]
    have : ¬ x = 0 := by clear hQ hR hcp hcc hlp; simp_all
    simp [orI, this]
  · obtain ⟨e1, e2, e3⟩ := hst (by assumption)
    rw [e1] at hz
    refine hR (i + 1) _ ⟨e2, ?_⟩ e3 ⟨hz ▸ rfl, trivial⟩ ⟨rfl, rfl, rfl, trivial⟩ rfl
    rw [hdr x hx] at hd
    have : x = 0 := by clear hQ hR hcp hcc hlp; simp_all
    rw [← hd]; simp [orI, this]
  · refine hQ _ ?_
    rw [← hd, hge (by assumption)]; rfl

theorem or3_c (a b c : Int) : PCall Try.prog 97 [.sl [[.int .i64 a], [.int .i64 b], [.int .i64 c]]] fun r => r = [.int .i64 (orI [a, b, c])] := or_c [a, b, c] _ rfl (by simp)
def orderV (a b : Val) : Int := orI [cmpI (clean a).k (clean b).k, cmpI (clean a).n (clean b).n, cmpS (clean a).s (clean b).s]
theorem order_c (k n : Int) (s : ByteArray) (k' n' : Int) (s' : ByteArray) : PCall Try.prog 50 [.agg [.int .i64 k, .int .i64 n, .str s], .agg [.int .i64 k', .int .i64 n', .str s']] fun r => r = [.int .i64 (orderV ⟨k, n, s⟩ ⟨k', n', s'⟩)] := by
  refine PCall.x (nt := 26) (res := [.tmp 4]) mixed tt_ok [] Try.func50 rfl rfl rfl c50 (Nat.le_of_ble_eq_true rfl) ?_
  intro cp cc lp Q' hcp hcc hlp hQ
  repeat' (first
    | (with_reducible refine Nm.mk ?_; intro z hz)
    | (with_reducible refine IfB.mk ?_ ?_ <;> (intro h; cases h))
    | (with_reducible refine Two.l ?_; refine Asm.mk ?_ ?_; focus (decide +kernel))
    | (with_reducible refine Two.r ?_)
    | (with_reducible refine Asm.mk ?_ ?_; focus (first | kernel_rfl | decide))
    | (with_reducible refine isCP hcp ?_; first | (refine vP hcp (clean_c k n s) ?_; intro v hv) | (refine vP hcp (clean_c k' n' s') ?_; intro v hv) | (refine iP hcp (compare1_c _ _) ?_; intro z hz) | (refine iP hcp (compare2_c _ _) ?_; intro z hz) | (refine iP hcp (strCompare_c _ _) ?_; intro z hz) | (refine iP hcp (or3_c _ _ _) ?_; intro z hz))
    | (with_reducible refine isCC hcc ?_; first | (refine vA hcc (clean_c k n s) rfl ?_; intro v hv) | (refine vA hcc (clean_c k' n' s') rfl ?_; intro v hv) | (refine iA hcc (compare1_c _ _) rfl ?_; intro z hz) | (refine iA hcc (compare2_c _ _) rfl ?_; intro z hz) | (refine iA hcc (strCompare_c _ _) rfl ?_; intro z hz) | (refine iA hcc (or3_c _ _ _) rfl ?_; intro z hz))
    | (with_reducible refine Asm.mk2 ?_ ?_)
    | ((fail_if_success (with_reducible first | refine hQ _ ?_ | refine Side.mk ?_ | refine isCP hcp ?_ | refine isCC hcc ?_ | refine isLP hlp ?_ | refine Ix.mk ?_ | refine SIx.mk ?_ | refine SEx.mk ?_ | refine EIx.mk ?_ | refine RIx.mk ?_ | show False | refine hR ?_ _ ?_ ?_ ?_ ?_ ?_ | refine hR2 ?_ _ ?_ ?_ ?_ ?_ ?_)); cbv))
  all_goals (refine hQ _ ?_; clear hQ hcp hcc hlp; subst_vars; simp [orderV])
end Go.Proofs.Ytnhmnfokbinplaa

namespace Go.Proofs.Ytnhmnfokbinplaa
open Go Go.RowKit
set_option maxRecDepth 100000
set_option linter.unusedSimpArgs false
set_option linter.unusedVariables false

def testO (op o : Int) : Bool := if op = 12 then decide (o = 0) else if op = 13 then !decide (o = 0) else if op = 14 then decide (o < 0) else if op = 15 then decide (o ≤ 0) else if op = 16 then decide (0 < o) else decide (0 ≤ o)
def testV (op : Int) (a b : Val) : Val :=
  if (clean a).k = 0 ∨ (clean b).k = 0 ∨ op < 12 ∨ 17 < op then Val.zero else flag (testO op (orderV (clean a) (clean b)))

theorem array6 {op z : Int} (h1 : ¬ op < 12) (h2 : ¬ 17 < op) (hz : IntKind.i64.wrap (op - 12) = z) {o : Int} {b1 b2 b3 b4 b5 b6 : Bool} (e1 : decide (o = 0) = b1) (e2 : (!decide (o = 0)) = b2) (e3 : decide (o < 0) = b3) (e4 : decide (o ≤ 0) = b4) (e5 : decide (0 < o) = b5) (e6 : decide (0 ≤ o) = b6)
    {K : AV → Prop} (k : K (.p (.bool (testO op o)))) : AIx [.p (.bool b1), .p (.bool b2), .p (.bool b3), .p (.bool b4), .p (.bool b5), .p (.bool b6)] 6 z K := by
  rw [wrap_in (by omega)] at hz
  refine AIx.at_ (.p (.bool (testO op o))) (by omega) (by omega) ?_ k
  have : op = 12 ∨ op = 13 ∨ op = 14 ∨ op = 15 ∨ op = 16 ∨ op = 17 := by omega
  rcases this with rfl | rfl | rfl | rfl | rfl | rfl <;> subst hz <;> subst e1 e2 e3 e4 e5 e6 <;> rfl

theorem test_c (op k n : Int) (s : ByteArray) (k' n' : Int) (s' : ByteArray) : PCall Try.prog 52 [.int .i64 op, .agg [.int .i64 k, .int .i64 n, .str s], .agg [.int .i64 k', .int .i64 n', .str s']] fun r => r = [(testV op ⟨k, n, s⟩ ⟨k', n', s'⟩).enc] := by
  have hop1 : decide (op < 12) = false → ¬ op < 12 := by simp
  have hop2 : decide (17 < op) = false → ¬ 17 < op := by simp
  refine PCall.x (nt := 49) (res := [.cell 6 25]) mixed tt_ok [] Try.func52 rfl rfl rfl c52 (Nat.le_of_ble_eq_true rfl) ?_
  intro cp cc lp Q' hcp hcc hlp hQ
  repeat' (first
    | (with_reducible refine Nm.mk ?_; intro z hz)
    | (with_reducible refine IfB.mk ?_ ?_ <;> (intro h; cases h))
    | (with_reducible refine Two.l ?_; refine Asm.mk ?_ ?_; focus (decide +kernel))
    | (with_reducible refine Two.r ?_)
    | (with_reducible refine Asm.mk ?_ ?_; focus kernel_rfl)
    | (with_reducible refine isCP hcp ?_; first | (refine vP hcp (clean_c k n s) ?_; intro v hv) | (refine vP hcp (clean_c k' n' s') ?_; intro v hv) | (refine iP hcp (order_c _ _ _ _ _ _) ?_; intro z hz) | (refine vP hcp (flag_c _) ?_; intro v hv))
    | (with_reducible refine isCC hcc ?_; first | (refine vA hcc (clean_c k n s) rfl ?_; intro v hv) | (refine vA hcc (clean_c k' n' s') rfl ?_; intro v hv) | (refine iA hcc (order_c _ _ _ _ _ _) rfl ?_; intro z hz) | (refine vA hcc (flag_c _) rfl ?_; intro v hv))
    | (with_reducible refine array6 (hop1 (by assumption)) (hop2 (by assumption)) (by assumption) (by assumption) (by assumption) (by assumption) (by assumption) (by assumption) (by assumption) ?_)
    | (with_reducible refine Asm.mk2 ?_ ?_)
    | ((fail_if_success (with_reducible first | refine hQ _ ?_ | refine Side.mk ?_ | refine isCP hcp ?_ | refine isCC hcc ?_ | refine isLP hlp ?_ | refine Ix.mk ?_ | refine SIx.mk ?_ | refine SEx.mk ?_ | refine EIx.mk ?_ | refine RIx.mk ?_ | show False | refine hR ?_ _ ?_ ?_ ?_ ?_ ?_ | refine hR2 ?_ _ ?_ ?_ ?_ ?_ ?_)); cbv))
  all_goals (refine hQ _ ?_; clear hQ hcp hcc hlp)
  · have h : testV op ⟨k, n, s⟩ ⟨k', n', s'⟩ = Val.zero := by unfold testV; rw [if_pos]; simp_all
    rw [h]; rfl
  · have h : testV op ⟨k, n, s⟩ ⟨k', n', s'⟩ = Val.zero := by unfold testV; rw [if_pos]; simp_all
    rw [h]; rfl
  · have h : testV op ⟨k, n, s⟩ ⟨k', n', s'⟩ = Val.zero := by unfold testV; rw [if_pos]; simp_all
    rw [h]; rfl
  · have h : testV op ⟨k, n, s⟩ ⟨k', n', s'⟩ = Val.zero := by unfold testV; rw [if_pos]; simp_all
    rw [h]; rfl
  · have h : testV op ⟨k, n, s⟩ ⟨k', n', s'⟩ = v := by
      unfold testV; rw [if_neg (by clear hv; simp_all), ← hv]; unfold testO; clear hv; subst_vars; rfl
    rw [h]; rfl

def catV (a b : Val) : Val := if ¬ a.k = 2 ∨ ¬ b.k = 2 ∨ (1000 : Int) < a.s.size + b.s.size then Val.zero else ⟨2, 0, a.s ++ b.s⟩
theorem cat_c (k n : Int) (s : ByteArray) (k' n' : Int) (s' : ByteArray) (h : s.size ≤ 281474976710656) (h' : s'.size ≤ 281474976710656) : PCall Try.prog 55 [.agg [.int .i64 k, .int .i64 n, .str s], .agg [.int .i64 k', .int .i64 n', .str s']] fun r => r = [(catV ⟨k, n, s⟩ ⟨k', n', s'⟩).enc] := by
  have hm : ¬ maxI < ((s.size + s'.size : Nat) : Int) := by
    have : maxI = 9223372036854775807 := by decide
    omega
  have hw : IntKind.i64.wrap ((s.size : Int) + (s'.size : Int)) = s.size + s'.size := wrap_in (by omega)
  refine PCall.x (nt := 30) (res := [.cell 4 25]) mixed tt_ok [] Try.func55 rfl rfl rfl c55 (Nat.le_of_ble_eq_true rfl) ?_
  intro cp cc lp Q' hcp hcc hlp hQ
  repeat' (first
    | (with_reducible refine Nm.mk ?_; intro z hz)
    | (with_reducible refine IfB.mk ?_ ?_ <;> (intro h; cases h))
    | (with_reducible refine Two.l ?_; refine Asm.mk ?_ ?_; focus (decide +kernel))
    | (with_reducible refine Two.r ?_)
    | (with_reducible refine Asm.mk ?_ ?_; focus (first | exact hm | kernel_rfl | decide))
    | (with_reducible refine Asm.mk2 ?_ ?_)
    | ((fail_if_success (with_reducible first | refine hQ _ ?_ | refine Side.mk ?_ | refine isCP hcp ?_ | refine isCC hcc ?_ | refine isLP hlp ?_ | refine Ix.mk ?_ | refine SIx.mk ?_ | refine SEx.mk ?_ | refine EIx.mk ?_ | refine RIx.mk ?_ | show False | refine hR ?_ _ ?_ ?_ ?_ ?_ ?_ | refine hR2 ?_ _ ?_ ?_ ?_ ?_ ?_)); cbv))
  · refine hQ _ ?_
    have e : catV ⟨k, n, s⟩ ⟨k', n', s'⟩ = Val.zero := by unfold catV; rw [if_pos]; left; clear hQ hcp hcc hlp; simp_all
    rw [e]; rfl
  · refine hQ _ ?_
    have e : catV ⟨k, n, s⟩ ⟨k', n', s'⟩ = Val.zero := by unfold catV; rw [if_pos]; right; left; clear hQ hcp hcc hlp; simp_all
    rw [e]; rfl
  · refine hQ _ ?_
    have e : catV ⟨k, n, s⟩ ⟨k', n', s'⟩ = Val.zero := by
      unfold catV; rw [if_pos]; right; right
      clear hQ hcp hcc hlp hm
      rename_i y1 h1 y2 h2 h3
      simp only [nc] at *
      simp only [nc'] at *
      subst h1 h2
      rw [hw] at h3
      subst h3
      exact of_decide_eq_true hz
    rw [e]; rfl
  · refine hQ _ ?_
    have e : catV ⟨k, n, s⟩ ⟨k', n', s'⟩ = ⟨2, 0, s ++ s'⟩ := by
      unfold catV; rw [if_neg]
      rename_i g1 g2 y1 h1 y2 h2 y3 h3 h4
      clear hQ hcp hcc hlp hm
      simp only [nc] at *
      simp only [nc'] at *
      subst h1 h2
      rw [hw] at h3
      subst h3
      have h5 := of_decide_eq_false h4
      simp only [Bool.not_eq_false', decide_eq_true_eq] at g1 g2
      simp only [not_or, Decidable.not_not]
      exact ⟨g1, g2, h5⟩
    rw [e, ← hz]; rfl

def trueV (v : Val) : Bool := decide (v.k = 1) && !decide (v.n = 0)
theorem true_c (k n : Int) (s : ByteArray) : PCall Try.prog 57 [.agg [.int .i64 k, .int .i64 n, .str s]] fun r => r = [.bool (trueV ⟨k, n, s⟩)] := by
  refine PCall.x (nt := 11) (res := [.tmp 2]) mixed tt_ok [] Try.func57 rfl rfl rfl c57 (Nat.le_of_ble_eq_true rfl) ?_
  intro cp cc lp Q' hcp hcc hlp hQ
  repeat' (first
    | (with_reducible refine Nm.mk ?_; intro z hz)
    | (with_reducible refine IfB.mk ?_ ?_ <;> (intro h; cases h))
    | (with_reducible refine Two.l ?_; refine Asm.mk ?_ ?_; focus (decide +kernel))
    | (with_reducible refine Two.r ?_)
    | (with_reducible refine Asm.mk ?_ ?_; focus (first | kernel_rfl | decide))
    | (with_reducible refine Asm.mk2 ?_ ?_)
    | ((fail_if_success (with_reducible first | refine hQ _ ?_ | refine Side.mk ?_ | refine isCP hcp ?_ | refine isCC hcc ?_ | refine isLP hlp ?_ | refine Ix.mk ?_ | refine SIx.mk ?_ | refine SEx.mk ?_ | refine EIx.mk ?_ | refine RIx.mk ?_ | show False | refine hR ?_ _ ?_ ?_ ?_ ?_ ?_ | refine hR2 ?_ _ ?_ ?_ ?_ ?_ ?_)); cbv))
  all_goals (refine hQ _ ?_; clear hQ hcp hcc hlp; subst_vars; simp_all [trueV])
end Go.Proofs.Ytnhmnfokbinplaa

namespace Go.Proofs.Ytnhmnfokbinplaa
open Go Go.RowKit
set_option maxRecDepth 100000
set_option linter.unusedSimpArgs false
set_option linter.unusedVariables false

inductive Ex where
  | mk (op n : Int) (v : Val) (ar : List Ex)
mutual
def Ex.cells : Ex → List PV
  | .mk op n v ar => [.int .i64 op, .int .i64 n, .int .i64 v.k, .int .i64 v.n, .str v.s, .sl (cellsL ar)]
def cellsL : List Ex → List (List PV)
  | [] => []
  | e :: r => e.cells :: cellsL r
end
theorem cellsL_eq : ∀ l : List Ex, cellsL l = l.map Ex.cells
  | [] => rfl
  | e :: r => by simp [cellsL, cellsL_eq r]
theorem cells_mk (op n : Int) (v : Val) (ar : List Ex) : (Ex.mk op n v ar).cells = [.int .i64 op, .int .i64 n, .int .i64 v.k, .int .i64 v.n, .str v.s, .sl (ar.map Ex.cells)] := by rw [Ex.cells, cellsL_eq]
theorem ex_len (e : Ex) : e.cells.length = 6 := by cases e; rfl
mutual
def Ex.sz : Ex → Nat
  | .mk _ _ _ ar => szL ar + 1
def szL : List Ex → Nat
  | [] => 0
  | e :: r => e.sz + szL r
end
theorem sz_mem : ∀ {l : List Ex} {e : Ex}, e ∈ l → e.sz ≤ szL l
  | [], _, h => by simp at h
  | a :: r, e, h => by
    simp only [szL]
    rcases List.mem_cons.1 h with g | g
    · subst g; omega
    · have := sz_mem g; omega

theorem Ix.ex {es : List (List PV)} {ar : List Ex} {i : Int} {K : List PV → Prop} (hl : ar.map Ex.cells = es) (h0 : 0 ≤ i) (hn : i < ar.length)
    (g : ∀ op n vk vn vs ar' es', ar[i.toNat]? = some (.mk op n ⟨vk, vn, vs⟩ ar') → ar'.map Ex.cells = es' → K [.int .i64 op, .int .i64 n, .int .i64 vk, .int .i64 vn, .str vs, .sl es']) : Ix 6 es i K := by
  refine Ix.map hl ex_len (by decide) h0 hn fun x hx => ?_
  obtain ⟨op, n, ⟨vk, vn, vs⟩, ar'⟩ := x
  rw [cells_mk]
  exact g op n vk vn vs ar' _ hx rfl

def arityE (op : Int) : Int := if op = 1 ∨ op = 2 then 0 else if op = 3 ∨ op = 4 ∨ op = 5 ∨ op = 6 then 1 else if op = 21 then 3 else if 7 ≤ op ∧ op ≤ 20 then 2 else -1
set_option maxHeartbeats 4000000 in
theorem arity_c (op : Int) : PCall Try.prog 132 [.int .i64 op] fun r => r = [.int .i64 (arityE op)] := by
  refine PCall.x (nt := 20) (res := [.tmp 2]) mixed tt_ok [] Try.func132 rfl rfl rfl c132 (Nat.le_of_ble_eq_true rfl) ?_
  intro cp cc lp Q' hcp hcc hlp hQ
  repeat' (first
    | (with_reducible refine Nm.mk ?_; intro z hz)
    | (with_reducible refine IfB.mk ?_ ?_ <;> (intro h; cases h))
    | (with_reducible refine Two.l ?_; refine Asm.mk ?_ ?_; focus (decide +kernel))
    | (with_reducible refine Two.r ?_)
    | (with_reducible refine Asm.mk ?_ ?_; focus (first | kernel_rfl | decide))
    | (with_reducible refine Asm.mk2 ?_ ?_)
    | ((fail_if_success (with_reducible first | refine hQ _ ?_ | refine Side.mk ?_ | refine isCP hcp ?_ | refine isCC hcc ?_ | refine isLP hlp ?_ | refine Ix.mk ?_ | refine SIx.mk ?_ | refine SEx.mk ?_ | refine EIx.mk ?_ | refine RIx.mk ?_ | show False | refine hR ?_ _ ?_ ?_ ?_ ?_ ?_ | refine hR2 ?_ _ ?_ ?_ ?_ ?_ ?_)); cbv))
  all_goals (refine hQ _ ?_; clear hQ hcp hcc hlp; simp only [decide_eq_true_eq, decide_eq_false_iff_not] at *; congr 2; unfold arityE; (repeat' split) <;> first | omega | (intros; omega))

def mx (a b : Int) : Int := if a < b then b else a
def badE (op n : Int) (v : Val) (len : Nat) : Bool := !decide (arityE op = (len : Int)) || (decide (op = 1) && decide (n < 0)) || (decide (op = 2) && decide (v.k = 2) && decide ((1000 : Int) < (v.s.size : Int)))
mutual
def walkE : Ex → Int → Int → Int → Bool × Int × Int
  | .mk op n v ar, d, nodes, high =>
    if decide (400 < nodes + 1) || decide (40 < d) || badE op n v ar.length then (false, nodes + 1, mx high d) else walkL ar (d + 1) (nodes + 1) (mx high d)
def walkL : List Ex → Int → Int → Int → Bool × Int × Int
  | [], _, n, h => (true, n, h)
  | a :: r, d, n, h => match walkE a d n h with
    | (true, n', h') => walkL r d n' h'
    | (false, n', h') => (false, n', h')
end
mutual
theorem walkE_nodes : ∀ (e : Ex) (d n h : Int) (b : Bool) (n' h' : Int), 0 ≤ n → n ≤ 400 → walkE e d n h = (b, n', h') → 0 ≤ n' ∧ n' ≤ 401 ∧ (b = true → n < n' ∧ n' ≤ 400)
  | .mk op m v ar, d, n, h, b, n', h', h0, h1, he => by
    rw [walkE] at he
    split at he
    · simp only [Prod.mk.injEq] at he
      obtain ⟨rfl, rfl, rfl⟩ := he
      exact ⟨by omega, by omega, fun h => by cases h⟩
    · rename_i hc
      have hn : n + 1 ≤ 400 := by
        simp only [Bool.or_eq_true, decide_eq_true_eq, not_or] at hc
        omega
      have := walkL_nodes ar (d + 1) (n + 1) (mx h d) b n' h' (by omega) hn he
      exact ⟨this.1, this.2.1, fun hb => by have := this.2.2 hb; omega⟩
theorem walkL_nodes : ∀ (l : List Ex) (d n h : Int) (b : Bool) (n' h' : Int), 0 ≤ n → n ≤ 400 → walkL l d n h = (b, n', h') → 0 ≤ n' ∧ n' ≤ 401 ∧ (b = true → n ≤ n' ∧ n' ≤ 400)
  | [], d, n, h, b, n', h', h0, h1, he => by
    simp only [walkL, Prod.mk.injEq] at he
    obtain ⟨rfl, rfl, rfl⟩ := he
    exact ⟨h0, by omega, fun _ => ⟨Int.le_refl _, h1⟩⟩
  | a :: r, d, n, h, b, n', h', h0, h1, he => by
    rw [walkL] at he
    split at he
    · rename_i n1 h2 hw
      have h3 := walkE_nodes a d n h _ _ _ h0 h1 hw
      have h4 := walkL_nodes r d n1 h2 b n' h' h3.1 (h3.2.2 rfl).2 he
      exact ⟨h4.1, h4.2.1, fun hb => by have := h3.2.2 rfl; have := h4.2.2 hb; omega⟩
    · rename_i n1 h2 hw
      have h3 := walkE_nodes a d n h _ _ _ h0 h1 hw
      simp only [Prod.mk.injEq] at he
      obtain ⟨rfl, rfl, rfl⟩ := he
      exact ⟨h3.1, h3.2.1, fun h => by cases h⟩
end

def wH (n h : Int) : List AObj := [.cells [.p (.int .i64 n)], .cells [.p (.int .i64 h)], .cells [.fn 131 [.ref 0 0, .ref 1 0, .ref 2 0]]]
def WalkC (e : Ex) : Prop := ∀ (cells : List PV) (d n h : Int), e.cells = cells → 0 ≤ d → d ≤ 41 → 0 ≤ n → n ≤ 400 → ∃ b n' h', walkE e d n h = (b, n', h') ∧
  ACall Try.prog 131 [.p (.ip cells), .p (.int .i64 d), .ref 0 0, .ref 1 0, .ref 2 0] (wH n h) fun r H' => r = .p (.bool b) ∧ takeX H' 3 = wH n' h'

end Go.Proofs.Ytnhmnfokbinplaa

namespace Go.Proofs.Ytnhmnfokbinplaa
open Go Go.RowKit
set_option maxRecDepth 100000
set_option linter.unusedSimpArgs false
set_option linter.unusedVariables false

set_option maxHeartbeats 4000000 in
theorem walk_c (op m : Int) (v : Val) (ar : List Ex) (es : List (List PV)) (hes : ar.map Ex.cells = es) (IH : ∀ x, x ∈ ar → WalkC x) (d n h : Int) (hd0 : 0 ≤ d) (hd1 : d ≤ 41) (hn0 : 0 ≤ n) (hn1 : n ≤ 400) :
    ACall Try.prog 131 [.p (.ip [.int .i64 op, .int .i64 m, .int .i64 v.k, .int .i64 v.n, .str v.s, .sl es]), .p (.int .i64 d), .ref 0 0, .ref 1 0, .ref 2 0] (wH n h) fun r H' => r = .p (.bool (walkE (.mk op m v ar) d n h).1) ∧ takeX H' 3 = wH (walkE (.mk op m v ar) d n h).2.1 (walkE (.mk op m v ar) d n h).2.2 := by
  have hel : es.length = ar.length := by rw [← hes]; simp
  obtain ⟨q, hq⟩ : ∃ q, walkE (.mk op m v ar) d n h = q := ⟨_, rfl⟩
  rw [hq]
  rw [walkE] at hq
  obtain ⟨vk, vn, vs⟩ := v
  have hw1 : IntKind.i64.wrap (n + 1) = n + 1 := wrap_in (by omega)
  have hsz : ((⟨vk, vn, vs⟩ : Val).s.size : Int) = vs.size := rfl
  have hfail : ∀ (zn zh : Int), IntKind.i64.wrap (n + 1) = zn → (if h < d then d else h) = zh →
      (decide (400 < zn) = true ∨ decide (40 < d) = true ∨ (∃ za zl, (!decide (za = zl)) = true ∧ arityE op = za ∧ (es.length : Int) = zl) ∨ (decide (op = 1) = true ∧ decide (m < 0) = true) ∨ (decide (op = 2) = true ∧ decide (vk = 2) = true ∧ ∃ zs, decide ((1000 : Int) < zs) = true ∧ (vs.size : Int) = zs)) → q = (false, zn, zh) := by
    intro zn zh h1 h2 h3
    rw [hw1] at h1
    subst h1 h2
    rw [← hq, if_pos]
    · rfl
    · simp only [badE, Bool.or_eq_true, Bool.and_eq_true, decide_eq_true_eq, Bool.not_eq_true', decide_eq_false_iff_not] at h3 ⊢
      rcases h3 with h3 | h3 | ⟨za, zl, h3, h4, h5⟩ | ⟨h3, h4⟩ | ⟨h3, h4, zs, h5, h6⟩
      · exact .inl (.inl h3)
      · exact .inl (.inr h3)
      · right; left; left; rw [h4, ← hel, h5]; exact h3
      · right; left; right; exact ⟨h3, h4⟩
      · right; right; exact ⟨⟨h3, h4⟩, by rw [hsz, h6]; exact h5⟩
  have hgo : ∀ (zn zh za zl : Int), IntKind.i64.wrap (n + 1) = zn → (if h < d then d else h) = zh → decide (400 < zn) = false → decide (40 < d) = false → (!decide (za = zl)) = false → arityE op = za → (es.length : Int) = zl →
      (decide (op = 1) = false ∨ decide (m < 0) = false) → (decide (op = 2) = false ∨ decide (vk = 2) = false ∨ ∃ zs, decide ((1000 : Int) < zs) = false ∧ (vs.size : Int) = zs) → walkL ar (d + 1) zn zh = q ∧ 0 ≤ zn ∧ zn ≤ 400 ∧ d ≤ 40 ∧ (es.length : Int) ≤ 3 := by
    intro zn zh za zl h1 h2 h3 h4 h5 h6 h7 h8 h9
    rw [hw1] at h1
    subst h1 h2
    simp only [decide_eq_false_iff_not, Bool.not_eq_false', decide_eq_true_eq] at h3 h4 h5
    have ha3 : arityE op ≤ 3 := by unfold arityE; (repeat' split) <;> omega
    refine ⟨?_, by omega, by omega, by omega, by omega⟩
    show walkL ar (d + 1) (n + 1) (mx h d) = q
    rw [← hq, if_neg]
    · simp only [badE, Bool.or_eq_true, Bool.and_eq_true, decide_eq_true_eq, Bool.not_eq_true', decide_eq_false_iff_not, not_or, not_and, Decidable.not_not]
      simp only [decide_eq_false_iff_not] at h8 h9
      refine ⟨⟨h3, h4⟩, ⟨by rw [h6, ← hel, h7]; exact h5, fun a b => ?_⟩, fun a b => ?_⟩
      · rcases h8 with g | g
        · exact g a
        · exact g b
      · rcases h9 with g | g | ⟨zs, g, k⟩
        · exact absurd a.1 g
        · exact absurd a.2 g
        · rw [hsz, k] at b; exact g b
  clear hq
  refine ACall.x (nt := 91) (res := [.tmp 7]) mixed tt_ok [] Try.func131 rfl rfl rfl c131 (Nat.le_of_ble_eq_true rfl) ?_
  intro cp cc lp Q' hcp hcc hlp hQ
  repeat' (first
    | (with_reducible refine Nm.mk ?_; intro z hz)
    | (with_reducible refine IfB.mk ?_ ?_ <;> (intro h; cases h))
    | (with_reducible refine Two.l ?_; refine Asm.mk ?_ ?_; focus (decide +kernel))
    | (with_reducible refine Two.r ?_)
    | (with_reducible refine Asm.mk ?_ ?_; focus (first | kernel_rfl | decide))
    | (with_reducible refine isCP hcp ?_; first | (refine iP hcp (arity_c op) ?_; intro z hz))
    | (with_reducible refine isCC hcc ?_; first | (refine iA hcc (arity_c op) rfl ?_; intro z hz))
    | (with_reducible refine Asm.mk2 ?_ ?_)
    | ((fail_if_success (with_reducible first | refine hQ _ _ ?_ | refine Side.mk ?_ | refine isCP hcp ?_ | refine isCC hcc ?_ | refine isLP hlp ?_ | refine Ix.mk ?_ | refine SIx.mk ?_ | refine SEx.mk ?_ | refine EIx.mk ?_ | refine RIx.mk ?_ | show False | refine hR ?_ _ ?_ ?_ ?_ ?_ ?_ | refine hR2 ?_ _ ?_ ?_ ?_ ?_ ?_)); cbv))
  all_goals first
    | (have e : q = _ := hfail _ _ (by assumption) (by assumption) (by first | exact .inl (by assumption) | exact .inr (.inl (by assumption)) | exact .inr (.inr (.inl ⟨_, _, by assumption, by assumption, by assumption⟩)) | exact .inr (.inr (.inr (.inl ⟨by assumption, by assumption⟩))) | exact .inr (.inr (.inr (.inr ⟨by assumption, by assumption, _, by assumption, by assumption⟩))))
       refine hQ _ _ ⟨?_, ?_⟩
       · rw [e]; rfl
       · rw [e]; rfl)
    | (obtain ⟨e, hzn0, hzn1, hd40, hl3⟩ := hgo _ _ _ _ (by assumption) (by assumption) (by assumption) (by assumption) (by assumption) (by assumption) (by assumption) (by first | exact .inl (by assumption) | exact .inr (by assumption)) (by first | exact .inl (by assumption) | exact .inr (.inl (by assumption)) | exact .inr (.inr ⟨_, by assumption, by assumption⟩))
       have hwd : IntKind.i64.wrap (d + 1) = d + 1 := wrap_in (by omega)
       simp only [nc] at hz
       simp only [nc'] at hz
       have hzl := hz
       clear hz
       rename Int => zl
       refine loopX (ι := Int × Int × Int) mixed tt_ok hcp hcc hlp [0, 1, 2, 3, 4, 75] (fun p => [(76, .p (.int .i64 p.1))]) (fun p => wH p.2.1 p.2.2)
         (fun p => 0 ≤ p.1 ∧ p.1 ≤ zl ∧ 0 ≤ p.2.1 ∧ p.2.1 ≤ 400 ∧ walkL (ar.drop p.1.toNat) (d + 1) p.2.1 p.2.2 = q) (fun p => (zl - p.1).toNat) (0, _, _)
         ⟨by show (0 : Int) ≤ 0; omega, by show (0 : Int) ≤ zl; omega, hzn0, hzn1, e⟩ ⟨rfl, trivial⟩ rfl ?_
       rintro R ⟨i, n1, h1⟩ ⟨hi0, hi1, hb0, hb1, hw⟩ hR
       have hi0 : 0 ≤ i := hi0
       have hi1 : i ≤ zl := hi1
       have hb0 : 0 ≤ n1 := hb0
       have hb1 : n1 ≤ 400 := hb1
       have hw : walkL (ar.drop i.toNat) (d + 1) n1 h1 = q := hw
       have hk : decide (i < zl) = true → i < ar.length := by simp only [decide_eq_true_eq]; omega
       have hdr : ∀ x, ar[i.toNat]? = some x → ar.drop i.toNat = x :: ar.drop (i + 1).toNat := by
         intro x hx
         have hlt := (List.getElem?_eq_some_iff.1 hx).1
         rw [List.drop_eq_getElem_cons hlt, show (i + 1).toNat = i.toNat + 1 by omega]
         congr 1
         exact (List.getElem?_eq_some_iff.1 hx).2
       have hend : decide (i < zl) = false → q = (true, n1, h1) := by
         intro hf
         simp only [decide_eq_false_iff_not] at hf
         rw [← hw, List.drop_eq_nil_of_le (by omega)]; rfl
       have hstep : ∀ x b n2 h2, ar[i.toNat]? = some x → walkE x (d + 1) n1 h1 = (b, n2, h2) → (b = false → q = (false, n2, h2)) ∧ (b = true → walkL (ar.drop (i + 1).toNat) (d + 1) n2 h2 = q ∧ 0 ≤ n2 ∧ n2 ≤ 400) := by
         intro x b n2 h2 hx he
         have hn := walkE_nodes _ _ _ _ _ _ _ hb0 hb1 he
         rw [hdr x hx, walkL, he] at hw
         constructor
         · intro hb; subst hb; exact hw.symm
         · intro hb; subst hb; exact ⟨hw, hn.1, (hn.2.2 rfl).2⟩
       have hcallr : ∀ (op' m' vk' vn' : Int) (vs' : ByteArray) (ar' : List Ex) (es' : List (List PV)) (z' : Int), ar[i.toNat]? = some (.mk op' m' ⟨vk', vn', vs'⟩ ar') → ar'.map Ex.cells = es' → IntKind.i64.wrap (d + 1) = z' → ∃ b n2 h2, (walkE (.mk op' m' ⟨vk', vn', vs'⟩ ar') (d + 1) n1 h1 = (b, n2, h2) ∧ z' = d + 1) ∧
           ACall Try.prog 131 [.p (.ip [.int .i64 op', .int .i64 m', .int .i64 vk', .int .i64 vn', .str vs', .sl es']), .p (.int .i64 z'), .ref 0 0, .ref 1 0, .ref 2 0] (wH n1 h1) fun r H' => r = .p (.bool b) ∧ takeX H' 3 = wH n2 h2 := by
         intro op' m' vk' vn' vs' ar' es' z' hx he hz'
         rw [hwd] at hz'
         subst hz'
         obtain ⟨b, n2, h2, k1, k2⟩ := IH _ (List.mem_of_getElem? hx) _ (d + 1) n1 h1 (by rw [cells_mk, he]) (by omega) (by omega) hb0 hb1
         exact ⟨b, n2, h2, ⟨k1, rfl⟩, k2⟩
       repeat' (first
         | (with_reducible refine Nm.mk ?_; intro z hz)
         | (with_reducible refine IfB.mk ?_ ?_ <;> (intro h; cases h))
         | (with_reducible refine Two.l ?_; refine Asm.mk ?_ ?_; focus (decide +kernel))
         | (with_reducible refine Two.r ?_)
         | (with_reducible refine Asm.mk ?_ ?_; focus kernel_rfl)
         | (with_reducible refine Ix.ex hes hi0 (hk (by assumption)) ?_; intro op' m' vk' vn' vs' ar' es' hx hes')
         | (with_reducible refine isCC hcc ?_; obtain ⟨b', n2, h2, ⟨hwe, hz'⟩, hcall⟩ := hcallr _ _ _ _ _ _ _ _ hx hes' (by assumption); refine frameA (H1 := wH n2 h2) hcc [0, 1, 2] hcall rfl rfl rfl rfl rfl ?_)
         | (with_reducible refine Asm.mk2 ?_ ?_)
         | ((fail_if_success (with_reducible first | refine hQ _ _ ?_ | refine Side.mk ?_ | refine isCP hcp ?_ | refine isCC hcc ?_ | refine isLP hlp ?_ | refine Ix.mk ?_ | refine SIx.mk ?_ | refine SEx.mk ?_ | refine EIx.mk ?_ | refine RIx.mk ?_ | show False | refine hR ?_ _ ?_ ?_ ?_ ?_ ?_ | refine hR2 ?_ _ ?_ ?_ ?_ ?_ ?_)); cbv))
       all_goals first
         | (have hb' : (!b') = true := by assumption
            have e : q = (false, n2, h2) := (hstep _ _ _ _ hx hwe).1 (by simpa using hb')
            refine hQ _ _ ⟨?_, ?_⟩
            · rw [e]; rfl
            · rw [e]; rfl)
         | (have hb' : (!b') = false := by assumption
            obtain ⟨g1, g2, g3⟩ := (hstep _ _ _ _ hx hwe).2 (by simpa using hb')
            have hlt := hk (by assumption)
            have e1 : IntKind.i64.wrap (i + 1) = i + 1 := wrap_in (by omega)
            rw [e1] at hz
            refine hR (i + 1, n2, h2) _ ⟨by show 0 ≤ i + 1; omega, by show i + 1 ≤ _; clear hR hQ; simp only [decide_eq_true_eq] at *; omega, g2, g3, g1⟩ (by show Int.toNat _ < Int.toNat _; clear hR hQ; simp only [decide_eq_true_eq] at *; omega) ⟨hz ▸ rfl, trivial⟩ ⟨rfl, rfl, rfl, rfl, rfl, rfl, trivial⟩ rfl)
         | (have e : q = (true, n1, h1) := hend (by assumption)
            refine hQ _ _ ⟨?_, ?_⟩
            · rw [e]; rfl
            · rw [e]; rfl))
end Go.Proofs.Ytnhmnfokbinplaa

namespace Go.Proofs.Ytnhmnfokbinplaa
open Go Go.RowKit
set_option maxRecDepth 100000
set_option linter.unusedSimpArgs false
set_option linter.unusedVariables false

theorem walk_all : ∀ (k : Nat) (e : Ex), e.sz ≤ k → WalkC e
  | 0, .mk op m v ar, h => by simp [Ex.sz] at h
  | k + 1, .mk op m v ar, h => by
    intro cells d n h' he hd0 hd1 hn0 hn1
    refine ⟨_, _, _, rfl, ?_⟩
    rw [cells_mk] at he
    subst he
    refine walk_c op m v ar _ rfl (fun x hx => walk_all k x ?_) d n h' hd0 hd1 hn0 hn1
    have := sz_mem hx
    simp only [Ex.sz] at h; omega
def sizeM (e : Ex) : Int × Int := if (walkE e 1 0 0).1 = true then ((walkE e 1 0 0).2.1, (walkE e 1 0 0).2.2) else (401, 41)
def builtM (e : Ex) : Bool := decide ((sizeM e).1 ≤ 400)

theorem esize_c (op n vk vn : Int) (vs : ByteArray) (ar : List Ex) (es : List (List PV)) (hes : ar.map Ex.cells = es) :
    PCall Try.prog 67 [.agg [.int .i64 op, .int .i64 n, .int .i64 vk, .int .i64 vn, .str vs, .sl es]] fun r => r = [.int .i64 (sizeM (.mk op n ⟨vk, vn, vs⟩ ar)).1, .int .i64 (sizeM (.mk op n ⟨vk, vn, vs⟩ ar)).2] := by
  obtain ⟨b, n', h', hw, hcall⟩ := walk_all _ (.mk op n ⟨vk, vn, vs⟩ ar) (Nat.le_refl _) _ 1 0 0 (by rw [cells_mk]) (by decide) (by decide) (by decide) (by decide)
  have hs : sizeM (.mk op n ⟨vk, vn, vs⟩ ar) = if b = true then (n', h') else (401, 41) := by unfold sizeM; rw [hw]
  rw [hes] at hcall
  refine PCall.x (nt := 13) (res := [.tmp 2, .tmp 3]) mixed tt_ok [(131, [0])] Try.func67 rfl rfl rfl c67 (Nat.le_of_ble_eq_true rfl) ?_
  intro cp cc lp Q' hcp hcc hlp hQ
  repeat' (first
    | (with_reducible refine Nm.mk ?_; intro z hz)
    | (with_reducible refine IfB.mk ?_ ?_ <;> (intro h; cases h))
    | (with_reducible refine Two.l ?_; refine Asm.mk ?_ ?_; focus (decide +kernel))
    | (with_reducible refine Two.r ?_)
    | (with_reducible refine Asm.mk ?_ ?_; focus kernel_rfl)
    | (with_reducible refine isCC hcc ?_; refine frameA (H1 := wH n' h') hcc [1, 2, 3] hcall rfl rfl rfl rfl rfl ?_)
    | (with_reducible refine Asm.mk2 ?_ ?_)
    | ((fail_if_success (with_reducible first | refine hQ _ ?_ | refine Side.mk ?_ | refine isCP hcp ?_ | refine isCC hcc ?_ | refine isLP hlp ?_ | refine Ix.mk ?_ | refine SIx.mk ?_ | refine SEx.mk ?_ | refine EIx.mk ?_ | refine RIx.mk ?_ | show False | refine hR ?_ _ ?_ ?_ ?_ ?_ ?_ | refine hR2 ?_ _ ?_ ?_ ?_ ?_ ?_)); cbv))
  all_goals (refine hQ _ ?_; clear hQ hcp hcc hlp; rw [hs]; cases b <;> first | rfl | (simp at hz; done))
theorem ebuilt_c (op n vk vn : Int) (vs : ByteArray) (ar : List Ex) (es : List (List PV)) (hes : ar.map Ex.cells = es) :
    PCall Try.prog 115 [.agg [.int .i64 op, .int .i64 n, .int .i64 vk, .int .i64 vn, .str vs, .sl es]] fun r => r = [.bool (builtM (.mk op n ⟨vk, vn, vs⟩ ar))] := by
  have hs := esize_c op n vk vn vs ar es hes
  unfold builtM
  obtain ⟨q, hq⟩ : ∃ q, sizeM (.mk op n ⟨vk, vn, vs⟩ ar) = q := ⟨_, rfl⟩
  rw [hq] at hs ⊢
  refine PCall.x (nt := 12) (res := [.tmp 2]) mixed tt_ok [] Try.func115 rfl rfl rfl c115 (Nat.le_of_ble_eq_true rfl) ?_
  intro cp cc lp Q' hcp hcc hlp hQ
  repeat' (first
    | (with_reducible refine Nm.mk ?_; intro z hz)
    | (with_reducible refine IfB.mk ?_ ?_ <;> (intro h; cases h))
    | (with_reducible refine Two.l ?_; refine Asm.mk ?_ ?_; focus (decide +kernel))
    | (with_reducible refine Two.r ?_)
    | (with_reducible refine Asm.mk ?_ ?_; focus (first | kernel_rfl | decide))
    | (with_reducible refine isCP hcp ?_; first | (refine iiP hcp (hs) ?_; intro z w hz hw))
    | (with_reducible refine isCC hcc ?_; first | (refine iiA hcc (hs) rfl ?_; intro z w hz hw))
    | (with_reducible refine Asm.mk2 ?_ ?_)
    | ((fail_if_success (with_reducible first | refine hQ _ ?_ | refine Side.mk ?_ | refine isCP hcp ?_ | refine isCC hcc ?_ | refine isLP hlp ?_ | refine Ix.mk ?_ | refine SIx.mk ?_ | refine SEx.mk ?_ | refine EIx.mk ?_ | refine RIx.mk ?_ | show False | refine hR ?_ _ ?_ ?_ ?_ ?_ ?_ | refine hR2 ?_ _ ?_ ?_ ?_ ?_ ?_)); cbv))
  all_goals (refine hQ _ ?_; clear hQ hcp hcc hlp hs; subst_vars; rfl)
end Go.Proofs.Ytnhmnfokbinplaa

namespace Go.Proofs.Ytnhmnfokbinplaa
open Go Go.RowKit
set_option maxRecDepth 100000
set_option linter.unusedSimpArgs false
set_option linter.unusedVariables false

section
variable {P : Program} {cp : FuncId → List PV → (CR → Prop) → Prop} {cc : FuncId → List AV → List AObj → (AV → List AObj → Prop) → Prop} {f : FuncId} {args : List PV} {aargs : List AV} {H : List AObj}
theorem pure_p : ∀ cs : List PV, optL pureX (mapX .p cs) = some cs
  | [] => rfl
  | c :: r => by
    have : pureX (.p c) = some c := by rw [pureX_eq]; cases c <;> rfl
    simp only [mapX, optL, this, pure_p r]
theorem ha1 {x : AV} {y : PV} {cs : List PV} (hx : pureX x = some y) : optL pureX (x :: mapX .p cs) = some (y :: cs) := by simp only [optL, hx, pure_p]
theorem hb1 {x : AV} {y : PV} {cs : List PV} (hx : pureX x = some y) : optL pureX (catX [x] (mapX .p cs)) = some (y :: cs) := ha1 hx
theorem hb2 {x x' : AV} {y y' : PV} {cs : List PV} (hx : pureX x = some y) (hx' : pureX x' = some y') : optL pureX (catX [x, x'] (mapX .p cs)) = some (y :: y' :: cs) := by
  show optL pureX (x :: x' :: mapX .p cs) = _
  simp only [optL, hx, hx', pure_p]
end

theorem takeS {α : Type} {l : List α} {i : Nat} {x : α} (h : l[i]? = some x) : l.take (i + 1) = l.take i ++ [x] := by rw [List.take_add_one, h]; rfl
def wideN (n : Nat) : Prop := n * 72 ≤ 140737488355328
mutual
def Ex.wide : Ex → Prop
  | .mk _ _ _ ar => wideN ar.length ∧ wideL ar
def wideL : List Ex → Prop
  | [] => True
  | e :: r => e.wide ∧ wideL r
end
theorem wide_mem : ∀ {l : List Ex} {e : Ex}, wideL l → e ∈ l → e.wide
  | [], _, _, h => by simp at h
  | a :: r, e, hw, h => by
    rcases List.mem_cons.1 h with g | g
    · subst g; exact hw.1
    · exact wide_mem hw.2 g
end Go.Proofs.Ytnhmnfokbinplaa

namespace Go.Proofs.Ytnhmnfokbinplaa
open Go Go.RowKit
set_option linter.unusedSimpArgs false
set_option linter.unusedVariables false

def vlenV (a : Val) : Val := if a.k = 2 then num (a.s.size : Int) else Val.zero
def evOp (col : Int → Val) (op n : Int) (v : Val) (l : List Val) : Val :=
  if op = 1 then col n else if op = 2 then clean v
  else if op = 3 then reckon 8 (num 0) ((l[0]?).getD Val.zero)
  else if op = 4 then vnot ((l[0]?).getD Val.zero)
  else if op = 5 then flag (decide (((l[0]?).getD Val.zero).k = 0))
  else if op = 6 then vlenV ((l[0]?).getD Val.zero)
  else if op = 7 ∨ op = 8 ∨ op = 9 ∨ op = 10 ∨ op = 11 then reckon op ((l[0]?).getD Val.zero) ((l[1]?).getD Val.zero)
  else if op = 18 then catV ((l[0]?).getD Val.zero) ((l[1]?).getD Val.zero)
  else if op = 19 ∨ op = 20 then both op ((l[0]?).getD Val.zero) ((l[1]?).getD Val.zero)
  else if op = 21 then (if trueV ((l[0]?).getD Val.zero) = true then (l[1]?).getD Val.zero else (l[2]?).getD Val.zero)
  else testV op ((l[0]?).getD Val.zero) ((l[1]?).getD Val.zero)
mutual
def evalE (col : Int → Val) : Ex → Val
  | .mk op n v ar => evOp col op n v (evalL col ar)
def evalL (col : Int → Val) : List Ex → List Val
  | [] => []
  | e :: r => evalE col e :: evalL col r
end
theorem evalL_eq (col : Int → Val) : ∀ l : List Ex, evalL col l = l.map (evalE col)
  | [] => rfl
  | e :: r => by simp [evalL, evalL_eq col r]

theorem built_iff (e : Ex) : builtM e = (walkE e 1 0 0).1 := by
  unfold builtM sizeM
  cases hb : (walkE e 1 0 0).1 with
  | false => simp
  | true =>
    have := walkE_nodes e 1 0 0 _ _ _ (by omega) (by omega) (show walkE e 1 0 0 = (true, (walkE e 1 0 0).2.1, (walkE e 1 0 0).2.2) by rw [← hb])
    simp; exact (this.2.2 rfl).2
/-! ### a copy -/
/- All parts are true just where the whole is. -/
end Go.Proofs.Ytnhmnfokbinplaa

namespace Go.Proofs.Ytnhmnfokbinplaa
open Go Go.RowKit
set_option maxRecDepth 100000
set_option linter.unusedSimpArgs false
set_option linter.unusedVariables false

theorem Ix.el {L : List (List PV)} {es : Nat} {i : Int} {K : List PV → Prop} (n : Nat) {e : List PV} (hi : 0 ≤ i) (hn : i.toNat = n) (h : L[n]? = some e) (he : e.length = es) (hes : es ≠ 0) (k : K e) : Ix es L i K := ⟨e, hi, by rw [hn]; exact h, he, hes, k⟩

abbrev oneW (f L : PV) : PV := .fn 167 [.ip [f], .ip [L]]
abbrev twoW (f L : PV) : PV := .fn 169 [.ip [f], .ip [L]]
abbrev byW (f : PV) (cells : List PV) (L : PV) : PV := twoW (.fn 171 [.ip [f], .ip cells]) L

/-- one, two, by: what they hand back. -/
theorem one_c (k : Nat) (caps : List PV) (L : List (List PV)) : PCall Try.prog 166 [.fn k caps, .ip [.sl L]] fun r => r = [oneW (.fn k caps) (.sl L)] := by
  refine PCall.x (nt := 5) (res := [.tmp 3]) mixed tt_ok [] Try.func166 rfl rfl rfl c166 (Nat.le_of_ble_eq_true rfl) ?_
  intro cp cc lp Q' hcp hcc hlp hQ
  repeat' (first
    | (with_reducible refine Nm.mk ?_; intro z hz)
    | (with_reducible refine IfB.mk ?_ ?_ <;> (intro h; cases h))
    | (with_reducible refine Two.l ?_; refine Asm.mk ?_ ?_; focus (decide +kernel))
    | (with_reducible refine Two.r ?_)
    | (with_reducible refine Asm.mk ?_ ?_; focus (first | kernel_rfl | decide))
    | (with_reducible refine Asm.mk2 ?_ ?_)
    | ((fail_if_success (with_reducible first | refine hQ _ ?_ | refine Side.mk ?_ | refine isCP hcp ?_ | refine isCC hcc ?_ | refine isLP hlp ?_ | refine Ix.mk ?_ | refine SIx.mk ?_ | refine SEx.mk ?_ | refine EIx.mk ?_ | refine RIx.mk ?_ | show False | refine hR ?_ _ ?_ ?_ ?_ ?_ ?_ | refine hR2 ?_ _ ?_ ?_ ?_ ?_ ?_)); cbv))
  all_goals (refine hQ _ ?_; clear hQ hcp hcc hlp; subst_vars; simp_all [oneW])
theorem two_c (k : Nat) (caps : List PV) (L : List (List PV)) : PCall Try.prog 168 [.fn k caps, .ip [.sl L]] fun r => r = [twoW (.fn k caps) (.sl L)] := by
  refine PCall.x (nt := 5) (res := [.tmp 3]) mixed tt_ok [] Try.func168 rfl rfl rfl c168 (Nat.le_of_ble_eq_true rfl) ?_
  intro cp cc lp Q' hcp hcc hlp hQ
  repeat' (first
    | (with_reducible refine Nm.mk ?_; intro z hz)
    | (with_reducible refine IfB.mk ?_ ?_ <;> (intro h; cases h))
    | (with_reducible refine Two.l ?_; refine Asm.mk ?_ ?_; focus (decide +kernel))
    | (with_reducible refine Two.r ?_)
    | (with_reducible refine Asm.mk ?_ ?_; focus (first | kernel_rfl | decide))
    | (with_reducible refine Asm.mk2 ?_ ?_)
    | ((fail_if_success (with_reducible first | refine hQ _ ?_ | refine Side.mk ?_ | refine isCP hcp ?_ | refine isCC hcc ?_ | refine isLP hlp ?_ | refine Ix.mk ?_ | refine SIx.mk ?_ | refine SEx.mk ?_ | refine EIx.mk ?_ | refine RIx.mk ?_ | show False | refine hR ?_ _ ?_ ?_ ?_ ?_ ?_ | refine hR2 ?_ _ ?_ ?_ ?_ ?_ ?_)); cbv))
  all_goals (refine hQ _ ?_; clear hQ hcp hcc hlp; subst_vars; simp_all [twoW])
theorem by_c (k : Nat) (caps : List PV) (cells : List PV) (L : List (List PV)) : PCall Try.prog 170 [.fn k caps, .ip [.fn 168 [.ip [.sl L]]], .ip cells] fun r => r = [byW (.fn k caps) cells (.sl L)] := by
  refine PCall.x (nt := 8) (res := [.tmp 4]) mixed tt_ok [(168, [0])] Try.func170 rfl rfl rfl c170 (Nat.le_of_ble_eq_true rfl) ?_
  intro cp cc lp Q' hcp hcc hlp hQ
  repeat' (first
    | (with_reducible refine Nm.mk ?_; intro z hz)
    | (with_reducible refine IfB.mk ?_ ?_ <;> (intro h; cases h))
    | (with_reducible refine Two.l ?_; refine Asm.mk ?_ ?_; focus (decide +kernel))
    | (with_reducible refine Two.r ?_)
    | (with_reducible refine Asm.mk ?_ ?_; focus (first | kernel_rfl | decide))
    | (with_reducible refine isCP hcp ?_; first | (refine xP hcp (two_c _ _ _) ?_; skip))
    | (with_reducible refine isCC hcc ?_; first | (refine xA hcc (two_c _ _ _) rfl ?_; skip))
    | (with_reducible refine Asm.mk2 ?_ ?_)
    | ((fail_if_success (with_reducible first | refine hQ _ ?_ | refine Side.mk ?_ | refine isCP hcp ?_ | refine isCC hcc ?_ | refine isLP hlp ?_ | refine Ix.mk ?_ | refine SIx.mk ?_ | refine SEx.mk ?_ | refine EIx.mk ?_ | refine RIx.mk ?_ | show False | refine hR ?_ _ ?_ ?_ ?_ ?_ ?_ | refine hR2 ?_ _ ?_ ?_ ?_ ?_ ?_)); cbv))
  exact hQ _ rfl

/-- What a worker of one part, of two, does. -/
theorem run1_c (kf : Nat) (cf : List PV) (k0 : Nat) (c0 : List PV) (kc : Nat) (cc0 : List PV) (L : List (List PV)) (h0 : L[0]? = some [.fn k0 c0]) (a b : Val)
    (ha : PCall Try.prog k0 (.fn kc cc0 :: c0) fun r => r = [a.enc]) (hb : PCall Try.prog kf (a.enc :: cf) fun r => r = [b.enc]) :
    PCall Try.prog 167 [.fn kc cc0, .ip [.fn kf cf], .ip [.sl L]] fun r => r = [b.enc] := by
  have hb' : ∀ v : Val, a = v → PCall Try.prog kf (.agg [.int .i64 v.k, .int .i64 v.n, .str v.s] :: cf) fun r => r = [b.enc] := by rintro v rfl; exact hb
  refine PCall.x (nt := 12) (res := [.cell 4 25]) mixed tt_ok [] Try.func167 rfl rfl rfl c167 (Nat.le_of_ble_eq_true rfl) ?_
  intro cp cc lp Q' hcp hcc hlp hQ
  repeat' (first
    | (with_reducible refine Nm.mk ?_; intro z hz)
    | (with_reducible refine IfB.mk ?_ ?_ <;> (intro h; cases h))
    | (with_reducible refine Two.l ?_; refine Asm.mk ?_ ?_; focus (decide +kernel))
    | (with_reducible refine Two.r ?_)
    | (with_reducible refine Asm.mk ?_ ?_; focus kernel_rfl)
    | (with_reducible refine isCP hcp ?_; first | (refine vP hcp (ha) ?_; intro v hv) | (refine vP hcp (hb' _ (by assumption)) ?_; intro v hv))
    | (with_reducible refine isCC hcc ?_; first | (refine vA hcc (ha) rfl ?_; intro v hv) | (refine vA hcc (hb' _ (by assumption)) rfl ?_; intro v hv))
    | (with_reducible refine Ix.el 0 (by decide) rfl h0 rfl (by decide) ?_)
    | (with_reducible refine Asm.mk2 ?_ ?_)
    | ((fail_if_success (with_reducible first | refine hQ _ ?_ | refine Side.mk ?_ | refine isCP hcp ?_ | refine isCC hcc ?_ | refine isLP hlp ?_ | refine Ix.mk ?_ | refine SIx.mk ?_ | refine SEx.mk ?_ | refine EIx.mk ?_ | refine RIx.mk ?_ | show False | refine hR ?_ _ ?_ ?_ ?_ ?_ ?_ | refine hR2 ?_ _ ?_ ?_ ?_ ?_ ?_)); cbv))
  all_goals (refine hQ _ ?_; clear hQ hcp hcc hlp ha hb hb'; subst_vars; rfl)
theorem run2_c (kf : Nat) (cf : List PV) (k0 : Nat) (c0 : List PV) (k1 : Nat) (c1 : List PV) (kc : Nat) (cc0 : List PV) (L : List (List PV)) (h0 : L[0]? = some [.fn k0 c0]) (h1 : L[1]? = some [.fn k1 c1]) (a b c : Val)
    (ha : PCall Try.prog k0 (.fn kc cc0 :: c0) fun r => r = [a.enc]) (hb : PCall Try.prog k1 (.fn kc cc0 :: c1) fun r => r = [b.enc]) (hc : PCall Try.prog kf (a.enc :: b.enc :: cf) fun r => r = [c.enc]) :
    PCall Try.prog 169 [.fn kc cc0, .ip [.fn kf cf], .ip [.sl L]] fun r => r = [c.enc] := by
  have hc' : ∀ v w : Val, a = v → b = w → PCall Try.prog kf (.agg [.int .i64 v.k, .int .i64 v.n, .str v.s] :: .agg [.int .i64 w.k, .int .i64 w.n, .str w.s] :: cf) fun r => r = [c.enc] := by rintro v w rfl rfl; exact hc
  refine PCall.x (nt := 17) (res := [.cell 4 25]) mixed tt_ok [] Try.func169 rfl rfl rfl c169 (Nat.le_of_ble_eq_true rfl) ?_
  intro cp cc lp Q' hcp hcc hlp hQ
  repeat' (first
    | (with_reducible refine Nm.mk ?_; intro z hz)
    | (with_reducible refine IfB.mk ?_ ?_ <;> (intro h; cases h))
    | (with_reducible refine Two.l ?_; refine Asm.mk ?_ ?_; focus (decide +kernel))
    | (with_reducible refine Two.r ?_)
    | (with_reducible refine Asm.mk ?_ ?_; focus kernel_rfl)
    | (with_reducible refine isCP hcp ?_; first | (refine vP hcp (ha) ?_; intro v hv) | (refine vP hcp (hb) ?_; intro v hv) | (refine vP hcp (hc' _ _ (by assumption) (by assumption)) ?_; intro v hv))
    | (with_reducible refine isCC hcc ?_; first | (refine vA hcc (ha) rfl ?_; intro v hv) | (refine vA hcc (hb) rfl ?_; intro v hv) | (refine vA hcc (hc' _ _ (by assumption) (by assumption)) rfl ?_; intro v hv))
    | (with_reducible refine Ix.el 0 (by decide) rfl h0 rfl (by decide) ?_)
    | (with_reducible refine Ix.el 1 (by decide) rfl h1 rfl (by decide) ?_)
    | (with_reducible refine Asm.mk2 ?_ ?_)
    | ((fail_if_success (with_reducible first | refine hQ _ ?_ | refine Side.mk ?_ | refine isCP hcp ?_ | refine isCC hcc ?_ | refine isLP hlp ?_ | refine Ix.mk ?_ | refine SIx.mk ?_ | refine SEx.mk ?_ | refine EIx.mk ?_ | refine RIx.mk ?_ | show False | refine hR ?_ _ ?_ ?_ ?_ ?_ ?_ | refine hR2 ?_ _ ?_ ?_ ?_ ?_ ?_)); cbv))
  all_goals (refine hQ _ ?_; clear hQ hcp hcc hlp ha hb hc hc'; subst_vars; rfl)
theorem runBy_c (kf : Nat) (cf : List PV) (op n k m : Int) (s : ByteArray) (es : List (List PV)) (a b c : Val) (hc : PCall Try.prog kf (.int .i64 op :: a.enc :: b.enc :: cf) fun r => r = [c.enc]) :
    PCall Try.prog 171 [a.enc, b.enc, .ip [.fn kf cf], .ip [.int .i64 op, .int .i64 n, .int .i64 k, .int .i64 m, .str s, .sl es]] fun r => r = [c.enc] := by
  obtain ⟨ak, an, as'⟩ := a
  obtain ⟨bk', bn, bs⟩ := b
  have hb3 : ∀ {x y z : AV} {p q r : PV} {cs : List PV}, pureX x = some p → pureX y = some q → pureX z = some r → optL pureX (catX [x, y, z] (mapX .p cs)) = some (p :: q :: r :: cs) := by
    intro x y z p q r cs h1 h2 h3
    show optL pureX (x :: y :: z :: mapX .p cs) = _
    simp only [optL, h1, h2, h3, pure_p]
  simp only [Val.enc] at hc
  refine PCall.x (nt := 13) (res := [.cell 6 25]) mixed tt_ok [] Try.func171 rfl rfl rfl c171 (Nat.le_of_ble_eq_true rfl) ?_
  intro cp cc lp Q' hcp hcc hlp hQ
  repeat' (first
    | (with_reducible refine Nm.mk ?_; intro z hz)
    | (with_reducible refine IfB.mk ?_ ?_ <;> (intro h; cases h))
    | (with_reducible refine Two.l ?_; refine Asm.mk ?_ ?_; focus (decide +kernel))
    | (with_reducible refine Two.r ?_)
    | (with_reducible refine Asm.mk ?_ ?_; focus kernel_rfl)
    | (with_reducible refine isCC hcc ?_; refine vA hcc hc (hb3 rfl rfl rfl) ?_; intro v hv)
    | (with_reducible refine Asm.mk2 ?_ ?_)
    | ((fail_if_success (with_reducible first | refine hQ _ ?_ | refine Side.mk ?_ | refine isCP hcp ?_ | refine isCC hcc ?_ | refine isLP hlp ?_ | refine Ix.mk ?_ | refine SIx.mk ?_ | refine SEx.mk ?_ | refine EIx.mk ?_ | refine RIx.mk ?_ | show False | refine hR ?_ _ ?_ ?_ ?_ ?_ ?_ | refine hR2 ?_ _ ?_ ?_ ?_ ?_ ?_)); cbv))
  all_goals (refine hQ _ ?_; clear hQ hcp hcc hlp hc hb3; subst_vars; rfl)
theorem run3_c (k0 : Nat) (c0 : List PV) (k1 : Nat) (c1 : List PV) (k2 : Nat) (c2 : List PV) (kc : Nat) (cc0 : List PV) (L : List (List PV)) (h0 : L[0]? = some [.fn k0 c0]) (h1 : L[1]? = some [.fn k1 c1]) (h2 : L[2]? = some [.fn k2 c2]) (a b c : Val)
    (ha : PCall Try.prog k0 (.fn kc cc0 :: c0) fun r => r = [a.enc]) (hb : PCall Try.prog k1 (.fn kc cc0 :: c1) fun r => r = [b.enc]) (hc : PCall Try.prog k2 (.fn kc cc0 :: c2) fun r => r = [c.enc]) :
    PCall Try.prog 178 [.fn kc cc0, .ip [.sl L]] fun r => r = [(if trueV a = true then b else c).enc] := by
  have ht : ∀ v : Val, a = v → PCall Try.prog 57 [.agg [.int .i64 v.k, .int .i64 v.n, .str v.s]] fun r => r = [.bool (trueV a)] := by rintro v rfl; exact true_c _ _ _
  refine PCall.x (nt := 20) (res := [.cell 3 25]) mixed tt_ok [] Try.func178 rfl rfl rfl c178 (Nat.le_of_ble_eq_true rfl) ?_
  intro cp cc lp Q' hcp hcc hlp hQ
  repeat' (first
    | (with_reducible refine Nm.mk ?_; intro z hz)
    | (with_reducible refine IfB.mk ?_ ?_ <;> (intro h; cases h))
    | (with_reducible refine Two.l ?_; refine Asm.mk ?_ ?_; focus (decide +kernel))
    | (with_reducible refine Two.r ?_)
    | (with_reducible refine Asm.mk ?_ ?_; focus kernel_rfl)
    | (with_reducible refine isCP hcp ?_; first | (refine bP hcp (ht _ (by assumption)) ?_; intro z hz))
    | (with_reducible refine isCC hcc ?_; first | (refine bA hcc (ht _ (by assumption)) rfl ?_; intro z hz))
    | (with_reducible refine Ix.el 0 (by decide) rfl h0 rfl (by decide) ?_)
    | (with_reducible refine Ix.el 1 (by decide) rfl h1 rfl (by decide) ?_)
    | (with_reducible refine Ix.el 2 (by decide) rfl h2 rfl (by decide) ?_)
    | (with_reducible refine isCC hcc ?_; first | (refine vA hcc ha (hb1 rfl) ?_; intro v hv) | (refine vA hcc hb (hb1 rfl) ?_; intro v hv) | (refine vA hcc hc (hb1 rfl) ?_; intro v hv))
    | (with_reducible refine Asm.mk2 ?_ ?_)
    | ((fail_if_success (with_reducible first | refine hQ _ ?_ | refine Side.mk ?_ | refine isCP hcp ?_ | refine isCC hcc ?_ | refine isLP hlp ?_ | refine Ix.mk ?_ | refine SIx.mk ?_ | refine SEx.mk ?_ | refine EIx.mk ?_ | refine RIx.mk ?_ | show False | refine hR ?_ _ ?_ ?_ ?_ ?_ ?_ | refine hR2 ?_ _ ?_ ?_ ?_ ?_ ?_)); cbv))
  all_goals (refine hQ _ ?_; clear hQ hcp hcc hlp ha hb hc ht; simp_all [Val.enc])

/-- The small ones. -/
theorem flagk_c (b : Bool) : PCall Try.prog 172 [.bool b] fun r => r = [(flag b).enc] := by
  refine PCall.x (nt := 6) (res := [.cell 2 25]) mixed tt_ok [] Try.func172 rfl rfl rfl c172 (Nat.le_of_ble_eq_true rfl) ?_
  intro cp cc lp Q' hcp hcc hlp hQ
  repeat' (first
    | (with_reducible refine Nm.mk ?_; intro z hz)
    | (with_reducible refine IfB.mk ?_ ?_ <;> (intro h; cases h))
    | (with_reducible refine Two.l ?_; refine Asm.mk ?_ ?_; focus (decide +kernel))
    | (with_reducible refine Two.r ?_)
    | (with_reducible refine Asm.mk ?_ ?_; focus (first | kernel_rfl | decide))
    | (with_reducible refine Asm.mk2 ?_ ?_)
    | ((fail_if_success (with_reducible first | refine hQ _ ?_ | refine Side.mk ?_ | refine isCP hcp ?_ | refine isCC hcc ?_ | refine isLP hlp ?_ | refine Ix.mk ?_ | refine SIx.mk ?_ | refine SEx.mk ?_ | refine EIx.mk ?_ | refine RIx.mk ?_ | show False | refine hR ?_ _ ?_ ?_ ?_ ?_ ?_ | refine hR2 ?_ _ ?_ ?_ ?_ ?_ ?_)); cbv))
  all_goals (refine hQ _ ?_; clear hQ hcp hcc hlp; subst_vars; simp_all [flag, num, Val.enc])
theorem colW_c (kc : Nat) (cc0 : List PV) (op n k m : Int) (s : ByteArray) (es : List (List PV)) (a : Val) (ha : PCall Try.prog kc (.int .i64 n :: cc0) fun r => r = [a.enc]) :
    PCall Try.prog 173 [.fn kc cc0, .ip [.int .i64 op, .int .i64 n, .int .i64 k, .int .i64 m, .str s, .sl es]] fun r => r = [a.enc] := by
  refine PCall.x (nt := 8) (res := [.cell 3 25]) mixed tt_ok [] Try.func173 rfl rfl rfl c173 (Nat.le_of_ble_eq_true rfl) ?_
  intro cp cc lp Q' hcp hcc hlp hQ
  repeat' (first
    | (with_reducible refine Nm.mk ?_; intro z hz)
    | (with_reducible refine IfB.mk ?_ ?_ <;> (intro h; cases h))
    | (with_reducible refine Two.l ?_; refine Asm.mk ?_ ?_; focus (decide +kernel))
    | (with_reducible refine Two.r ?_)
    | (with_reducible refine Asm.mk ?_ ?_; focus kernel_rfl)
    | (with_reducible refine isCC hcc ?_; refine vA hcc ha (hb1 rfl) ?_; intro v hv)
    | (with_reducible refine Asm.mk2 ?_ ?_)
    | ((fail_if_success (with_reducible first | refine hQ _ ?_ | refine Side.mk ?_ | refine isCP hcp ?_ | refine isCC hcc ?_ | refine isLP hlp ?_ | refine Ix.mk ?_ | refine SIx.mk ?_ | refine SEx.mk ?_ | refine EIx.mk ?_ | refine RIx.mk ?_ | show False | refine hR ?_ _ ?_ ?_ ?_ ?_ ?_ | refine hR2 ?_ _ ?_ ?_ ?_ ?_ ?_)); cbv))
  all_goals (refine hQ _ ?_; clear hQ hcp hcc hlp ha; subst_vars; rfl)
theorem constW_c (kc : Nat) (cc0 : List PV) (v : Val) : PCall Try.prog 174 [.fn kc cc0, .ip v.cells] fun r => r = [v.enc] := by
  obtain ⟨k, n, s⟩ := v
  simp only [Val.cells]
  refine PCall.x (nt := 5) (res := [.cell 3 25]) mixed tt_ok [] Try.func174 rfl rfl rfl c174 (Nat.le_of_ble_eq_true rfl) ?_
  intro cp cc lp Q' hcp hcc hlp hQ
  repeat' (first
    | (with_reducible refine Nm.mk ?_; intro z hz)
    | (with_reducible refine IfB.mk ?_ ?_ <;> (intro h; cases h))
    | (with_reducible refine Two.l ?_; refine Asm.mk ?_ ?_; focus (decide +kernel))
    | (with_reducible refine Two.r ?_)
    | (with_reducible refine Asm.mk ?_ ?_; focus (first | kernel_rfl | decide))
    | (with_reducible refine Asm.mk2 ?_ ?_)
    | ((fail_if_success (with_reducible first | refine hQ _ ?_ | refine Side.mk ?_ | refine isCP hcp ?_ | refine isCC hcc ?_ | refine isLP hlp ?_ | refine Ix.mk ?_ | refine SIx.mk ?_ | refine SEx.mk ?_ | refine EIx.mk ?_ | refine RIx.mk ?_ | show False | refine hR ?_ _ ?_ ?_ ?_ ?_ ?_ | refine hR2 ?_ _ ?_ ?_ ?_ ?_ ?_)); cbv))
  all_goals (refine hQ _ ?_; rfl)
theorem negW_c (a : Val) (h : -9223372036854775808 ≤ a.n ∧ a.n ≤ 9223372036854775807) : PCall Try.prog 175 [a.enc] fun r => r = [(reckon 8 (num 0) a).enc] := by
  obtain ⟨k, n, s⟩ := a
  have hr := reckon_c 8 1 0 ⟨#[]⟩ k n s (by decide) h
  simp only [Val.enc]
  refine PCall.x (nt := 6) (res := [.cell 2 25]) mixed tt_ok [] Try.func175 rfl rfl rfl c175 (Nat.le_of_ble_eq_true rfl) ?_
  intro cp cc lp Q' hcp hcc hlp hQ
  repeat' (first
    | (with_reducible refine Nm.mk ?_; intro z hz)
    | (with_reducible refine IfB.mk ?_ ?_ <;> (intro h; cases h))
    | (with_reducible refine Two.l ?_; refine Asm.mk ?_ ?_; focus (decide +kernel))
    | (with_reducible refine Two.r ?_)
    | (with_reducible refine Asm.mk ?_ ?_; focus (first | kernel_rfl | decide))
    | (with_reducible refine isCP hcp ?_; first | (refine vP hcp (hr) ?_; intro v hv))
    | (with_reducible refine isCC hcc ?_; first | (refine vA hcc (hr) rfl ?_; intro v hv))
    | (with_reducible refine Asm.mk2 ?_ ?_)
    | ((fail_if_success (with_reducible first | refine hQ _ ?_ | refine Side.mk ?_ | refine isCP hcp ?_ | refine isCC hcc ?_ | refine isLP hlp ?_ | refine Ix.mk ?_ | refine SIx.mk ?_ | refine SEx.mk ?_ | refine EIx.mk ?_ | refine RIx.mk ?_ | show False | refine hR ?_ _ ?_ ?_ ?_ ?_ ?_ | refine hR2 ?_ _ ?_ ?_ ?_ ?_ ?_)); cbv))
  all_goals (refine hQ _ ?_; clear hQ hcp hcc hlp hr; subst_vars; rfl)
theorem nullW_c (a : Val) : PCall Try.prog 176 [a.enc, .ip [.fn 172 []]] fun r => r = [(flag (decide (a.k = 0))).enc] := by
  obtain ⟨k, n, s⟩ := a
  simp only [Val.enc]
  refine PCall.x (nt := 9) (res := [.cell 3 25]) mixed tt_ok [] Try.func176 rfl rfl rfl c176 (Nat.le_of_ble_eq_true rfl) ?_
  intro cp cc lp Q' hcp hcc hlp hQ
  repeat' (first
    | (with_reducible refine Nm.mk ?_; intro z hz)
    | (with_reducible refine IfB.mk ?_ ?_ <;> (intro h; cases h))
    | (with_reducible refine Two.l ?_; refine Asm.mk ?_ ?_; focus (decide +kernel))
    | (with_reducible refine Two.r ?_)
    | (with_reducible refine Asm.mk ?_ ?_; focus (first | kernel_rfl | decide))
    | (with_reducible refine isCP hcp ?_; first | (refine vP hcp (flagk_c _) ?_; intro v hv))
    | (with_reducible refine isCC hcc ?_; first | (refine vA hcc (flagk_c _) rfl ?_; intro v hv))
    | (with_reducible refine Asm.mk2 ?_ ?_)
    | ((fail_if_success (with_reducible first | refine hQ _ ?_ | refine Side.mk ?_ | refine isCP hcp ?_ | refine isCC hcc ?_ | refine isLP hlp ?_ | refine Ix.mk ?_ | refine SIx.mk ?_ | refine SEx.mk ?_ | refine EIx.mk ?_ | refine RIx.mk ?_ | show False | refine hR ?_ _ ?_ ?_ ?_ ?_ ?_ | refine hR2 ?_ _ ?_ ?_ ?_ ?_ ?_)); cbv))
  all_goals (refine hQ _ ?_; clear hQ hcp hcc hlp; subst_vars; rfl)
theorem lenW_c (a : Val) (h : a.s.size ≤ 140737488355328) : PCall Try.prog 177 [a.enc] fun r => r = [(vlenV a).enc] := by
  obtain ⟨k, n, s⟩ := a
  simp only [Val.enc]
  refine PCall.x (nt := 11) (res := [.cell 2 25]) mixed tt_ok [] Try.func177 rfl rfl rfl c177 (Nat.le_of_ble_eq_true rfl) ?_
  intro cp cc lp Q' hcp hcc hlp hQ
  repeat' (first
    | (with_reducible refine Nm.mk ?_; intro z hz)
    | (with_reducible refine IfB.mk ?_ ?_ <;> (intro h; cases h))
    | (with_reducible refine Two.l ?_; refine Asm.mk ?_ ?_; focus (decide +kernel))
    | (with_reducible refine Two.r ?_)
    | (with_reducible refine Asm.mk ?_ ?_; focus (first | kernel_rfl | decide))
    | (with_reducible refine Asm.mk2 ?_ ?_)
    | ((fail_if_success (with_reducible first | refine hQ _ ?_ | refine Side.mk ?_ | refine isCP hcp ?_ | refine isCC hcc ?_ | refine isLP hlp ?_ | refine Ix.mk ?_ | refine SIx.mk ?_ | refine SEx.mk ?_ | refine EIx.mk ?_ | refine RIx.mk ?_ | show False | refine hR ?_ _ ?_ ?_ ?_ ?_ ?_ | refine hR2 ?_ _ ?_ ?_ ?_ ?_ ?_)); cbv))
  all_goals (refine hQ _ ?_; clear hQ hcp hcc hlp; try simp only [nc] at *
             try simp only [nc'] at *
             simp_all [vlenV, num, Val.zero])
end Go.Proofs.Ytnhmnfokbinplaa

namespace Go.Proofs.Ytnhmnfokbinplaa
open Go Go.RowKit
set_option maxRecDepth 100000
set_option linter.unusedSimpArgs false
set_option linter.unusedVariables false

def one2 (f L : PV) : Nat × List PV := (167, [.ip [f], .ip [L]])
def two2 (f L : PV) : Nat × List PV := (169, [.ip [f], .ip [L]])
def by2 (f : PV) (cells : List PV) (L : PV) : Nat × List PV := two2 (.fn 171 [.ip [f], .ip cells]) L
def wkOp (op : Int) (cells : List PV) (v : Val) (L : List (List PV)) : Nat × List PV :=
  if op = 1 then (173, [.ip cells]) else if op = 2 then (174, [.ip (clean v).cells])
  else if op = 3 then one2 (.fn 175 []) (.sl L) else if op = 4 then one2 (.fn 20 []) (.sl L) else if op = 5 then one2 (.fn 176 [.ip [.fn 172 []]]) (.sl L) else if op = 6 then one2 (.fn 177 []) (.sl L)
  else if op = 7 ∨ op = 8 ∨ op = 9 ∨ op = 10 ∨ op = 11 then by2 (.fn 29 []) cells (.sl L) else if op = 18 then two2 (.fn 55 []) (.sl L) else if op = 19 ∨ op = 20 then by2 (.fn 19 []) cells (.sl L)
  else if op = 21 then (178, [.ip [.sl L]]) else by2 (.fn 52 []) cells (.sl L)
mutual
def wk : Ex → Nat × List PV
  | .mk op n v ar => wkOp op (Ex.mk op n v ar).cells v (wkL ar)
def wkL : List Ex → List (List PV)
  | [] => []
  | e :: r => [.fn (wk e).1 (wk e).2] :: wkL r
end
def wkc (e : Ex) : List PV := [.fn (wk e).1 (wk e).2]
theorem wkL_eq : ∀ l : List Ex, wkL l = l.map wkc
  | [] => rfl
  | e :: r => by simp [wkL, wkL_eq r, wkc]

theorem okEs_wkc (l : List Ex) : okEs 1 (l.map wkc) = true := by
  simp only [okEs, List.all_map, List.all_eq_true]
  intro e _
  simp [wkc, PV.one]

section
variable {P : Program} {cp : FuncId → List PV → (CR → Prop) → Prop} {cc : FuncId → List AV → List AObj → (AV → List AObj → Prop) → Prop} {f : FuncId} {args : List PV} {aargs : List AV} {H : List AObj}
theorem fnP (hcp : PC1 P = cp) {X : Nat × List PV} {K : CR → Prop} (h : PCall P f args fun r => r = [.fn X.1 X.2]) (k : ∀ n c, X = (n, c) → K (.pure [.fn n c])) : cp f args K := callP hcp h fun _ e => e ▸ k X.1 X.2 rfl
theorem fnA (hcc : ACall P = cc) {X : Nat × List PV} {K : AV → List AObj → Prop} (h : PCall P f args fun r => r = [.fn X.1 X.2]) (ha : optL pureX aargs = some args) (k : ∀ n c, X = (n, c) → K (.p (.fn n c)) H) : cc f aargs H K := callA hcc ha h fun _ e => e ▸ k X.1 X.2 rfl
end

set_option maxHeartbeats 4000000 in
theorem compile_c (op n : Int) (v : Val) (ar : List Ex) (es : List (List PV)) (hes : ar.map Ex.cells = es) (hs : wideN ar.length)
    (IH : ∀ x, x ∈ ar → PCall Try.prog 118 [.agg x.cells] fun r => r = [.fn (wk x).1 (wk x).2]) :
    PCall Try.prog 118 [.agg [.int .i64 op, .int .i64 n, .int .i64 v.k, .int .i64 v.n, .str v.s, .sl es]] fun r => r = [.fn (wk (.mk op n v ar)).1 (wk (.mk op n v ar)).2] := by
  have hel : es.length = ar.length := by rw [← hes]; simp
  obtain ⟨vk, vn, vs⟩ := v
  obtain ⟨q, hq⟩ : ∃ q, wk (.mk op n ⟨vk, vn, vs⟩ ar) = q := ⟨_, rfl⟩
  rw [hq]
  rw [wk, cells_mk, hes, wkL_eq] at hq
  unfold wideN at hs
  have hmc : ∀ (op' m' vk' vn' : Int) (vs' : ByteArray) (ar' : List Ex) (es' : List (List PV)) (i : Nat), ar[i]? = some (.mk op' m' ⟨vk', vn', vs'⟩ ar') → ar'.map Ex.cells = es' →
      PCall Try.prog 118 [.agg [.int .i64 op', .int .i64 m', .int .i64 vk', .int .i64 vn', .str vs', .sl es']] fun r => r = [.fn (wk (.mk op' m' ⟨vk', vn', vs'⟩ ar')).1 (wk (.mk op' m' ⟨vk', vn', vs'⟩ ar')).2] := by
    intro op' m' vk' vn' vs' ar' es' i hx he
    have := IH _ (List.mem_of_getElem? hx)
    rw [cells_mk, he] at this
    exact this
  refine PCall.x (nt := 77) (res := [.tmp 2]) mixed tt_ok [(166, [1, 4]), (168, [1]), (170, [1, 3, 0])] Try.func118 rfl rfl rfl c118 (Nat.le_of_ble_eq_true rfl) ?_
  intro cp cc lp Q' hcp hcc hlp hQ
  repeat' (first
    | (with_reducible refine Nm.mk ?_; intro z hz)
    | (with_reducible refine IfB.mk ?_ ?_ <;> (intro h; cases h))
    | (with_reducible refine Two.l ?_; refine Asm.mk ?_ ?_; focus (decide +kernel))
    | (with_reducible refine Two.r ?_)
    | (with_reducible refine Asm.mk ?_ ?_; focus (first | kernel_rfl | decide))
    | (with_reducible refine Asm.mk2 ?_ ?_)
    | ((fail_if_success (with_reducible first | refine hQ _ ?_ | refine Side.mk ?_ | refine isCP hcp ?_ | refine isCC hcc ?_ | refine isLP hlp ?_ | refine Ix.mk ?_ | refine SIx.mk ?_ | refine SEx.mk ?_ | refine EIx.mk ?_ | refine RIx.mk ?_ | show False | refine hR ?_ _ ?_ ?_ ?_ ?_ ?_ | refine hR2 ?_ _ ?_ ?_ ?_ ?_ ?_)); cbv))
  simp only [nc] at hz
  simp only [nc'] at hz
  have hzl := hz
  clear hz
  rename Int => zl
  refine mintX hlp 1 1 0 rfl rfl ?_
  refine loopTz [(166, [1, 4]), (168, [1]), (170, [1, 3, 0])] (ι := Int × List (List PV) × Nat) mixed tt_ok hcp hcc hlp [1, 3, 12, 13] (fun p => [(14, .p (.int .i64 p.1))])
    (fun p => [.cells [.p (.int .i64 op), .p (.int .i64 n), .p (.int .i64 vk), .p (.int .i64 vn), .p (.str vs), .p (.sl es)], .cells [.tok 2 p.2.1], .spare p.2.2 1])
    (fun p => 0 ≤ p.1 ∧ p.1 ≤ zl ∧ (ar.take p.1.toNat).map wkc = p.2.1 ∧ p.2.1.length = p.2.2) (fun p => (zl - p.1).toNat)
    (0, [], 0) 3 (fun _ => rfl) ⟨by show (0 : Int) ≤ 0; omega, by show (0 : Int) ≤ zl; omega, by simp, rfl⟩ ⟨rfl, trivial⟩ rfl ?_
  rintro R ⟨i, L, m⟩ ⟨hi0, hi1, hl, hm⟩ hR
  have hi0 : 0 ≤ i := hi0
  have hi1 : i ≤ zl := hi1
  have hl : (ar.take i.toNat).map wkc = L := hl
  have hm : L.length = m := hm
  have hll : L.length ≤ i.toNat := by rw [← hl]; simp; omega
  have hok : okEs 1 L = true := by rw [← hl]; exact okEs_wkc _
  have hk : decide (i < zl) = true → i < ar.length := by simp only [decide_eq_true_eq]; omega
  have hst : decide (i < zl) = true → L.length + 1 ≤ maxLen ∧ (L.length + 1) * 8 ≤ 140737488355328 ∧ IntKind.i64.wrap (i + 1) = i + 1 ∧ (0 ≤ i + 1 ∧ i + 1 ≤ zl) ∧ (zl - (i + 1)).toNat < (zl - i).toNat := by
    intro h
    have hlt := hk h
    simp only [decide_eq_true_eq] at h
    refine ⟨by simp only [maxLen]; omega, by omega, wrap_in (by omega), by omega, by omega⟩
  have hfin : decide (i < zl) = false → ar.map wkc = L := by
    simp only [decide_eq_false_iff_not]; intro h
    rw [← hl, List.take_of_length_le (by omega)]
  repeat' (first
    | (with_reducible refine Nm.mk ?_; intro z hz)
    | (with_reducible refine IfB.mk ?_ ?_ <;> (intro h; cases h))
    | (with_reducible refine Two.l ?_; refine Asm.mk ?_ ?_; focus (decide +kernel))
    | (with_reducible refine Two.r ?_)
    | (with_reducible refine Asm.mk ?_ ?_; focus (first | kernel_rfl | (obtain ⟨u1, u2, u3⟩ := hst (by assumption); exact ⟨hm.symm, rfl, hok, rfl, u1, u2⟩)))
    | (with_reducible refine isCP hcp ?_; first | (refine fnP hcp (hmc _ _ _ _ _ _ _ i.toNat (by assumption) (by assumption)) ?_; intro k2 c2 hX) | (refine vP hcp (clean_c _ _ _) ?_; intro v hv) | (refine xP hcp (one_c _ _ _) ?_; skip) | (refine xP hcp (two_c _ _ _) ?_; skip) | (refine xP hcp (by_c _ _ _ _) ?_; skip))
    | (with_reducible refine isCC hcc ?_; first | (refine fnA hcc (hmc _ _ _ _ _ _ _ i.toNat (by assumption) (by assumption)) rfl ?_; intro k2 c2 hX) | (refine vA hcc (clean_c _ _ _) rfl ?_; intro v hv) | (refine xA hcc (one_c _ _ _) rfl ?_; skip) | (refine xA hcc (two_c _ _ _) rfl ?_; skip) | (refine xA hcc (by_c _ _ _ _) rfl ?_; skip))
    | (with_reducible refine Ix.ex hes hi0 (hk (by assumption)) ?_; intro op' m' vk' vn' vs' ar' es' hx hes')
    | (with_reducible refine Asm.mk2 ?_ ?_)
    | ((fail_if_success (with_reducible first | refine hQ _ ?_ | refine Side.mk ?_ | refine isCP hcp ?_ | refine isCC hcc ?_ | refine isLP hlp ?_ | refine Ix.mk ?_ | refine SIx.mk ?_ | refine SEx.mk ?_ | refine EIx.mk ?_ | refine RIx.mk ?_ | show False | refine hR ?_ _ ?_ ?_ ?_ ?_ ?_ | refine hR2 ?_ _ ?_ ?_ ?_ ?_ ?_)); cbv))
  · refine Side.mk ?_
    obtain ⟨u1, u2, u3⟩ := hst (by assumption)
    exact ⟨hm.symm, rfl, hok, rfl, u1, u2⟩
  · obtain ⟨u1, u2, e1, u3, u4⟩ := hst (by assumption)
    rw [e1] at hz
    rename_i L2 hL2 m2 hm2
    have et : ar.take (i + 1).toNat = ar.take i.toNat ++ [.mk op' m' ⟨vk', vn', vs'⟩ ar'] := by rw [show (i + 1).toNat = i.toNat + 1 by omega, takeS hx]
    refine hR (i + 1, _, _) _ ⟨u3.1, u3.2, ?_, ?_⟩ u4 ⟨hz ▸ rfl, trivial⟩ ⟨rfl, rfl, rfl, rfl, trivial⟩ rfl
    · show (ar.take (i + 1).toNat).map wkc = L2
      rw [et, List.map_append, hl, ← hL2]
      simp only [List.map_cons, List.map_nil, wkc, hX]
    · show L2.length = m2
      rw [← hL2, ← hm2, List.length_append]
  all_goals (refine hQ _ ?_; rw [← hq, hfin (by assumption)]; clear hQ hR hcp hcc hlp hq hfin hst hk hok hmc IH)
  all_goals first
    | (have e := of_decide_eq_true (show decide (op = _) = true by assumption)
       subst e
       subst_vars
       rfl)
    | (unfold wkOp; simp_all; first | rfl | exact ⟨rfl, rfl⟩)
theorem compile_all : ∀ (m : Nat) (e : Ex), e.sz ≤ m → e.wide → PCall Try.prog 118 [.agg e.cells] fun r => r = [.fn (wk e).1 (wk e).2]
  | 0, .mk op n v ar, h, _ => by simp [Ex.sz] at h
  | m + 1, .mk op n v ar, h, hw => by
    rw [cells_mk]
    refine compile_c op n v ar _ rfl hw.1 fun x hx => compile_all m x ?_ (wide_mem hw.2 hx)
    have := sz_mem hx
    simp only [Ex.sz] at h; omega
end Go.Proofs.Ytnhmnfokbinplaa

namespace Go.Proofs.Ytnhmnfokbinplaa
open Go Go.RowKit
set_option linter.unusedSimpArgs false
set_option linter.unusedVariables false

theorem arity_ops {op : Int} {n : Nat} (h : arityE op = (n : Int)) : 1 ≤ op ∧ op ≤ 21 := by
  unfold arityE at h
  split at h
  · omega
  · split at h
    · omega
    · split at h
      · omega
      · split at h <;> omega
theorem badE_arity {op n : Int} {v : Val} {k : Nat} (h : badE op n v k = false) : arityE op = (k : Int) := by
  simp only [badE, Bool.or_eq_false_iff, Bool.not_eq_false', decide_eq_true_eq] at h
  exact h.1.1

end Go.Proofs.Ytnhmnfokbinplaa

namespace Go.Proofs.Ytnhmnfokbinplaa
open Go Go.RowKit
set_option linter.unusedSimpArgs false
set_option linter.unusedVariables false

mutual
def Ex.ht : Ex → Nat
  | .mk _ _ _ ar => htL ar + 1
def htL : List Ex → Nat
  | [] => 0
  | e :: r => max e.ht (htL r)
end
mutual
def goodE : Ex → Bool
  | .mk op n v ar => !badE op n v ar.length && goodL ar
def goodL : List Ex → Bool
  | [] => true
  | e :: r => goodE e && goodL r
end
theorem goodL_all : ∀ l : List Ex, goodL l = l.all goodE
  | [] => rfl
  | e :: r => by simp [goodL, goodL_all r]
theorem sz_pos : ∀ e : Ex, 0 < e.sz
  | .mk _ _ _ _ => by simp [Ex.sz]
theorem ht_pos : ∀ e : Ex, 0 < e.ht
  | .mk _ _ _ _ => by simp [Ex.ht]
theorem mx_max (a b : Int) : mx a b = max a b := by unfold mx; split <;> omega

mutual
theorem walkE_eq : ∀ (e : Ex) (d n h : Int), 0 ≤ n → (((walkE e d n h).1 = true ↔ (goodE e = true ∧ n + (e.sz : Int) ≤ 400 ∧ d + (e.ht : Int) ≤ 41)) ∧ ((walkE e d n h).1 = true → walkE e d n h = (true, n + (e.sz : Int), max h (d + (e.ht : Int) - 1))))
  | .mk op m v ar, d, n, h, h0 => by
    rw [walkE]
    have hs := sz_pos (.mk op m v ar)
    have hh := ht_pos (.mk op m v ar)
    simp only [Ex.sz, Ex.ht] at hs hh
    simp only [goodE, Ex.sz, Ex.ht, Bool.and_eq_true, Bool.not_eq_true']
    split
    · rename_i hc
      simp only [Bool.or_eq_true, decide_eq_true_eq] at hc
      refine ⟨⟨fun h => (by cases h), fun h => ?_⟩, fun h => by cases h⟩
      obtain ⟨⟨h1, h2⟩, h3, h4⟩ := h
      rcases hc with (hc | hc) | hc
      · omega
      · omega
      · rw [h1] at hc; cases hc
    · rename_i hc
      simp only [Bool.or_eq_true, decide_eq_true_eq, not_or] at hc
      have hb : badE op m v ar.length = false := by simpa using hc.2
      have ih := walkL_eq ar (d + 1) (n + 1) (mx h d) (by omega) (by omega) (by omega) (by rw [mx_max]; omega)
      refine ⟨ih.1.trans ⟨fun ⟨a, b, c⟩ => ⟨⟨hb, a⟩, by omega, by omega⟩, fun ⟨⟨_, a⟩, b, c⟩ => ⟨a, by omega, by omega⟩⟩, fun ht => ?_⟩
      rw [ih.2 ht, mx_max]
      simp only [Prod.mk.injEq, true_and]
      omega
theorem walkL_eq : ∀ (l : List Ex) (d n h : Int), 0 ≤ n → n ≤ 400 → d ≤ 41 → d - 1 ≤ h → (((walkL l d n h).1 = true ↔ (goodL l = true ∧ n + (szL l : Int) ≤ 400 ∧ d + (htL l : Int) ≤ 41)) ∧ ((walkL l d n h).1 = true → walkL l d n h = (true, n + (szL l : Int), max h (d + (htL l : Int) - 1))))
  | [], d, n, h, h0, h1, h2, h3 => by
    simp only [walkL, goodL, szL, htL, true_iff, true_and, true_implies, Prod.mk.injEq]
    omega
  | a :: r, d, n, h, h0, h1, h2, h3 => by
    have ia := walkE_eq a d n h h0
    have hs := sz_pos a
    rw [walkL]
    simp only [goodL, szL, htL, Bool.and_eq_true]
    rcases h4 : walkE a d n h with ⟨b1, n1, h5⟩
    cases b1 with
    | false =>
      rw [h4] at ia
      refine ⟨⟨fun h => (by cases h), fun h => ?_⟩, fun h => by cases h⟩
      obtain ⟨⟨p, q⟩, u, v⟩ := h
      have := ia.1.2 ⟨p, by omega, by omega⟩
      cases this
    | true =>
      rw [h4] at ia
      have e := ia.2 rfl
      simp only [Prod.mk.injEq, true_and] at e
      obtain ⟨e1, e2⟩ := e
      have i1 := ia.1.1 rfl
      have ir := walkL_eq r d n1 h5 (by omega) (by omega) h2 (by omega)
      refine ⟨ir.1.trans ⟨fun ⟨p, q, u⟩ => ⟨⟨i1.1, p⟩, by omega, by omega⟩, fun ⟨⟨_, p⟩, q, u⟩ => ⟨p, by omega, by omega⟩⟩, fun ht => ?_⟩
      show walkL r d n1 h5 = _
      rw [ir.2 ht]
      simp only [Prod.mk.injEq, true_and]
      omega
end
theorem built_eq (e : Ex) : builtM e = true ↔ (goodE e = true ∧ e.sz ≤ 400 ∧ e.ht ≤ 40) := by
  rw [built_iff]
  have := (walkE_eq e 1 0 0 (by omega)).1
  rw [this]
  constructor
  · rintro ⟨a, b, c⟩; exact ⟨a, by omega, by omega⟩
  · rintro ⟨a, b, c⟩; exact ⟨a, by omega, by omega⟩
/-! ### values are clean, their texts are short -/
/-! ### folding -/
def Ex.val : Ex → Val
  | .mk _ _ v _ => v
theorem good_of_built {e : Ex} (h : builtM e = true) : goodE e = true := ((built_eq e).1 h).1
end Go.Proofs.Ytnhmnfokbinplaa

namespace Go.Proofs.Ytnhmnfokbinplaa
open Go Go.RowKit
set_option linter.unusedSimpArgs false
set_option linter.unusedVariables false

/-- What the columns of a row are. -/
def colOf (row : List Val) (n : Int) : Val := if (row.length : Int) ≤ n then Val.zero else clean ((row[n.toNat]?).getD Val.zero)
end Go.Proofs.Ytnhmnfokbinplaa

namespace Go.Proofs.Ytnhmnfokbinplaa
open Go Go.RowKit
set_option maxRecDepth 100000
set_option linter.unusedSimpArgs false
set_option linter.unusedVariables false

/-- What the model's numbers and texts are bounded by. -/
def okV (v : Val) : Prop := (-9223372036854775808 ≤ v.n ∧ v.n ≤ 9223372036854775807) ∧ v.s.size ≤ 140737488355328
theorem okV_zero : okV Val.zero := ⟨by decide, by decide⟩
theorem okV_num {n : Int} (h : -9223372036854775808 ≤ n ∧ n ≤ 9223372036854775807) : okV (num n) := ⟨h, by show (0 : Nat) ≤ _; omega⟩
theorem okV_flag (b : Bool) : okV (flag b) := okV_num (by split <;> decide)
theorem okV_clean {v : Val} (h : okV v) : okV (clean v) := by
  unfold clean
  split
  · exact ⟨h.1, by show (0 : Nat) ≤ _; omega⟩
  · split
    · exact ⟨by show _ ≤ (0 : Int) ∧ (0 : Int) ≤ _; omega, h.2⟩
    · exact okV_zero
theorem okV_opt (o : Option Int) (h : ∀ n, o = some n → -9223372036854775808 ≤ n ∧ n ≤ 9223372036854775807) : okV (optNum o) := by
  cases o with
  | none => exact okV_zero
  | some n => exact okV_num (h n rfl)
theorem in64_some {x n : Int} (h : in64 x = some n) : -9223372036854775808 ≤ n ∧ n ≤ 9223372036854775807 := by
  unfold in64 at h
  split at h
  · rename_i g; simp only [Option.some.injEq] at h; subst h; exact g
  · cases h
theorem okV_vlen {v : Val} (h : okV v) : okV (vlenV v) := by
  unfold vlenV
  split
  · refine okV_num ?_; have := h.2; omega
  · exact okV_zero
theorem okV_cat (a b : Val) : okV (catV a b) := by
  unfold catV
  split
  · exact okV_zero
  · rename_i h
    simp only [not_or, Decidable.not_not, Int.not_lt] at h
    refine ⟨by show _ ≤ (0 : Int) ∧ (0 : Int) ≤ _; omega, ?_⟩
    show (a.s ++ b.s).size ≤ _
    rw [ByteArray.size_append]; omega
theorem okV_not (a : Val) : okV (vnot a) := by unfold vnot; split; exact okV_flag _; exact okV_zero
theorem okV_both (op : Int) (a b : Val) : okV (both op a b) := by unfold both; (repeat' split) <;> first | exact okV_flag _ | exact okV_zero
theorem okV_test (op : Int) (a b : Val) : okV (testV op a b) := by unfold testV; split; exact okV_zero; exact okV_flag _
theorem okV_reckon (op : Int) {a b : Val} (ha : okV a) (hb : okV b) : okV (reckon op a b) := by
  unfold reckon
  split
  · refine okV_opt _ fun n hn => ?_
    have h1 := ha.1
    have h2 := hb.1
    unfold reckN at hn
    split at hn
    · exact in64_some hn
    split at hn
    · exact in64_some hn
    split at hn
    · exact in64_some hn
    split at hn
    · split at hn
      · cases hn
      · exact in64_some hn
    split at hn
    · split at hn
      · cases hn
      · rename_i h0
        simp only [Option.some.injEq] at hn
        subst hn
        have h3 : (a.n.tmod b.n).natAbs ≤ a.n.natAbs := by rw [Int.natAbs_tmod]; exact Nat.mod_le _ _
        have h4 : 0 ≤ a.n → 0 ≤ a.n.tmod b.n := fun h => Int.tmod_nonneg _ h
        have h5 : a.n ≤ 0 → a.n.tmod b.n ≤ 0 := fun h => by
          have := Int.tmod_nonneg b.n (a := -a.n) (by omega)
          rw [Int.neg_tmod] at this; omega
        omega
    · cases hn
  · exact okV_zero

mutual
def Ex.okc : Ex → Prop
  | .mk _ _ v ar => okV v ∧ okcL ar
def okcL : List Ex → Prop
  | [] => True
  | e :: r => e.okc ∧ okcL r
end
theorem okc_mem : ∀ {l : List Ex} {e : Ex}, okcL l → e ∈ l → e.okc
  | [], _, _, h => by simp at h
  | a :: r, e, hw, h => by
    rcases List.mem_cons.1 h with g | g
    · subst g; exact hw.1
    · exact okc_mem hw.2 g
theorem good_mem {l : List Ex} (h : goodL l = true) {e : Ex} (he : e ∈ l) : goodE e = true := by
  rw [goodL_all] at h; exact List.all_eq_true.1 h e he

theorem okV_evOp {col : Int → Val} {op n : Int} {v : Val} {l : List Val} (hc : op = 1 → okV (col n)) (hv : okV v) (hl : ∀ x, x ∈ l → okV x) : okV (evOp col op n v l) := by
  have g : ∀ i : Nat, okV ((l[i]?).getD Val.zero) := by
    intro i
    cases h : l[i]? with
    | none => exact okV_zero
    | some x => exact hl x (List.mem_of_getElem? h)
  unfold evOp
  split
  · rename_i h; exact hc h
  split
  · exact okV_clean hv
  split
  · exact okV_reckon _ (okV_num (by decide)) (g 0)
  split
  · exact okV_not _
  split
  · exact okV_flag _
  split
  · exact okV_vlen (g 0)
  split
  · exact okV_reckon _ (g 0) (g 1)
  split
  · exact okV_cat _ _
  split
  · exact okV_both _ _ _
  split
  · split
    · exact g 1
    · exact g 2
  · exact okV_test _ _ _

/-- What a worker is to give for an expression. -/
def Works (kc : Nat) (cc0 : List PV) (col : Int → Val) (e : Ex) : Prop :=
  okV (evalE col e) ∧ PCall Try.prog (wk e).1 (.fn kc cc0 :: (wk e).2) fun r => r = [(evalE col e).enc]
theorem work_c {kc : Nat} {cc0 : List PV} {col : Int → Val} (op n : Int) (hcol : op = 1 → 0 ≤ n → okV (col n) ∧ PCall Try.prog kc (.int .i64 n :: cc0) fun r => r = [(col n).enc])
     (v : Val) (ar : List Ex) (hb : badE op n v ar.length = false) (hv : okV v) (IH : ∀ x, x ∈ ar → Works kc cc0 col x) : Works kc cc0 col (.mk op n v ar) := by
  have ha := badE_arity hb
  have hop := arity_ops ha
  have hn : op = 1 → 0 ≤ n := by
    intro h
    subst h
    simp only [badE, Bool.or_eq_false_iff, Bool.and_eq_false_iff, decide_eq_false_iff_not] at hb
    rcases hb.1.2 with h | h
    · exact absurd trivial h
    · omega
  refine ⟨?_, ?_⟩
  · rw [evalE, evalL_eq]
    refine okV_evOp (fun h => (hcol h (hn h)).1) hv fun x hx => ?_
    obtain ⟨a, ha', rfl⟩ := List.mem_map.1 hx
    exact (IH a ha').1
  rw [wk, cells_mk, wkL_eq, evalE, evalL_eq]
  have l0 : ∀ a r, (wkc a :: r)[0]? = some [PV.fn (wk a).1 (wk a).2] := fun _ _ => rfl
  by_cases a0 : op = 1 ∨ op = 2
  · rcases a0 with rfl | rfl
    · exact colW_c kc cc0 _ n _ _ _ _ _ (hcol rfl (hn rfl)).2
    · exact constW_c kc cc0 (clean v)
  by_cases a1 : op = 3 ∨ op = 4 ∨ op = 5 ∨ op = 6
  · have hl : ar.length = 1 := by
      rcases a1 with rfl | rfl | rfl | rfl <;> (simp [arityE] at ha; omega)
    match ar, hl, IH with
    | [a], _, IH =>
      obtain ⟨ia, wa⟩ := IH a (by simp)
      rcases a1 with rfl | rfl | rfl | rfl
      · exact run1_c 175 [] _ _ kc cc0 _ rfl _ _ wa (negW_c _ ia.1)
      · exact run1_c 20 [] _ _ kc cc0 _ rfl _ _ wa (not_c _ _ _)
      · exact run1_c 176 _ _ _ kc cc0 _ rfl _ _ wa (nullW_c _)
      · exact run1_c 177 [] _ _ kc cc0 _ rfl _ _ wa (lenW_c _ ia.2)
  by_cases a3 : op = 21
  · have hl : ar.length = 3 := by subst a3; simp [arityE] at ha; omega
    match ar, hl, IH with
    | [a, b, c], _, IH =>
      obtain ⟨ia, wa⟩ := IH a (by simp)
      obtain ⟨ib, wb⟩ := IH b (by simp)
      obtain ⟨ic, wc⟩ := IH c (by simp)
      subst a3
      exact run3_c _ _ _ _ _ _ kc cc0 _ rfl rfl rfl _ _ _ wa wb wc
  have hl : ar.length = 2 := by
    have : arityE op = 2 := by unfold arityE; rw [if_neg a0, if_neg a1, if_neg a3, if_pos (by omega)]
    rw [this] at ha; omega
  match ar, hl, IH with
  | [a, b], _, IH =>
    obtain ⟨ia, wa⟩ := IH a (by simp)
    obtain ⟨ib, wb⟩ := IH b (by simp)
    have two : ∀ (kf : Nat) (cf : List PV) (c : Val), (PCall Try.prog kf ((evalE col a).enc :: (evalE col b).enc :: cf) fun r => r = [c.enc]) → PCall Try.prog 169 [.fn kc cc0, .ip [.fn kf cf], .ip [.sl ([a, b].map wkc)]] fun r => r = [c.enc] :=
      fun kf cf c h => run2_c kf cf _ _ _ _ kc cc0 _ rfl rfl _ _ c wa wb h
    have by' : ∀ (kf : Nat) (c : Val), (PCall Try.prog kf [.int .i64 op, (evalE col a).enc, (evalE col b).enc] fun r => r = [c.enc]) →
        PCall Try.prog 169 [.fn kc cc0, .ip [.fn 171 [.ip [.fn kf []], .ip [.int .i64 op, .int .i64 n, .int .i64 v.k, .int .i64 v.n, .str v.s, .sl ([a, b].map Ex.cells)]]], .ip [.sl ([a, b].map wkc)]] fun r => r = [c.enc] :=
      fun kf c h => two 171 _ c (runBy_c kf [] op n _ _ _ _ _ _ c h)
    by_cases b1 : op = 7 ∨ op = 8 ∨ op = 9 ∨ op = 10 ∨ op = 11
    · have h := by' 29 _ (reckon_c op _ _ _ _ _ _ ia.1 ib.1)
      rcases b1 with rfl | rfl | rfl | rfl | rfl <;> exact h
    by_cases b2 : op = 18
    · subst b2
      exact two 55 [] _ (cat_c _ _ _ _ _ _ (by have := ia.2; omega) (by have := ib.2; omega))
    by_cases b3 : op = 19 ∨ op = 20
    · have h := by' 19 _ (both_c op _ _ _ _ _ _)
      rcases b3 with rfl | rfl <;> exact h
    · have h := by' 52 _ (test_c op _ _ _ _ _ _)
      have : op = 12 ∨ op = 13 ∨ op = 14 ∨ op = 15 ∨ op = 16 ∨ op = 17 := by omega
      rcases this with rfl | rfl | rfl | rfl | rfl | rfl <;> exact h
def rowOk (row : List Val) : Prop := ∀ v, v ∈ row → okV v
theorem okV_colOf {row : List Val} (h : rowOk row) (n : Int) : okV (colOf row n) := by
  unfold colOf
  split
  · exact okV_zero
  · refine okV_clean ?_
    cases hx : row[n.toNat]? with
    | none => exact okV_zero
    | some x => exact h x (List.mem_of_getElem? hx)
end Go.Proofs.Ytnhmnfokbinplaa

namespace Go.Proofs.Ytnhmnfokbinplaa
open Go Go.RowKit
set_option maxRecDepth 100000
set_option linter.unusedSimpArgs false
set_option linter.unusedVariables false

set_option maxHeartbeats 4000000 in
theorem rarity_c (op : Int) : PCall Try.prog 205 [.int .i64 op] fun r => r = [.int .i64 (arityE op)] := by
  refine PCall.x (nt := 27) (res := [.tmp 2]) mixed tt_ok [] Try.func205 rfl rfl rfl c205 (Nat.le_of_ble_eq_true rfl) ?_
  intro cp cc lp Q' hcp hcc hlp hQ
  repeat' (first
    | (with_reducible refine Nm.mk ?_; intro z hz)
    | (with_reducible refine IfB.mk ?_ ?_ <;> (intro h; cases h))
    | (with_reducible refine Two.l ?_; refine Asm.mk ?_ ?_; focus (decide +kernel))
    | (with_reducible refine Two.r ?_)
    | (with_reducible refine Asm.mk ?_ ?_; focus (first | kernel_rfl | decide))
    | (with_reducible refine Asm.mk2 ?_ ?_)
    | ((fail_if_success (with_reducible first | refine hQ _ ?_ | refine Side.mk ?_ | refine isCP hcp ?_ | refine isCC hcc ?_ | refine isLP hlp ?_ | refine Ix.mk ?_ | refine SIx.mk ?_ | refine SEx.mk ?_ | refine EIx.mk ?_ | refine RIx.mk ?_ | show False | refine hR ?_ _ ?_ ?_ ?_ ?_ ?_ | refine hR2 ?_ _ ?_ ?_ ?_ ?_ ?_)); cbv))
  all_goals (refine hQ _ ?_; clear hQ hcp hcc hlp; simp only [decide_eq_true_eq, decide_eq_false_iff_not] at *; congr 2; unfold arityE; (repeat' split) <;> first | omega | (intros; omega))
end Go.Proofs.Ytnhmnfokbinplaa

namespace Go.Proofs.Ytnhmnfokbinplaa
open Go Go.RowKit
set_option maxRecDepth 100000
set_option linter.unusedSimpArgs false
set_option linter.unusedVariables false

def goodK (op m : Int) (v : Val) (len : Nat) : Bool := decide (arityE op = (len : Int)) && !(decide (op = 1) && decide (m < 0)) && !(decide (op = 2) && decide ((1000 : Int) < ((clean v).s.size : Int)))
theorem goodE_bad (op m : Int) (v : Val) (len : Nat) : goodK op m v len = !badE op m v len := by
  have hc : decide ((1000 : Int) < ((clean v).s.size : Int)) = (decide (v.k = 2) && decide ((1000 : Int) < (v.s.size : Int))) := by
    unfold clean
    by_cases h1 : v.k = 1
    · rw [if_pos h1, h1]
      rfl
    · rw [if_neg h1]
      by_cases h2 : v.k = 2
      · rw [if_pos h2, h2]; rfl
      · rw [if_neg h2, decide_eq_false h2]; rfl
  unfold goodK badE
  rw [hc]
  cases decide (arityE op = (len : Int)) <;> cases decide (op = 1) <;> cases decide (m < 0) <;> cases decide (op = 2) <;> cases decide (v.k = 2) <;> cases decide ((1000 : Int) < (v.s.size : Int)) <;> rfl
mutual
def measE : Ex → Int → Int → Int × Int × Bool
  | .mk op m v ar, n, d => if (decide (400 < n) || decide (40 < d)) = true then (n + 1, d, false) else measL (goodK op m v ar.length) ar (n + 1) d d
def measL : Bool → List Ex → Int → Int → Int → Int × Int × Bool
  | g, [], n, d, h => (n, h, g)
  | g, a :: r, n, d, h => match measE a n (d + 1) with
    | (n', h', true) => measL g r n' d (mx h h')
    | (n', h', false) => (n', mx h h', false)
end
theorem mx_assoc (a b c : Int) : mx (mx a b) c = mx a (mx b c) := by unfold mx; (repeat' split) <;> omega
theorem mx_l (a b : Int) : a ≤ mx a b := by unfold mx; split <;> omega
theorem mx_le {a b c : Int} (h : a ≤ c) (h' : b ≤ c) : mx a b ≤ c := by unfold mx; split <;> omega
mutual
theorem measE_up : ∀ (e : Ex) (n d : Int), n < (measE e n d).1 ∧ d ≤ (measE e n d).2.1
  | .mk op m v ar, n, d => by
    rw [measE]
    split
    · exact ⟨by show n < n + 1; omega, Int.le_refl _⟩
    · have := measL_up (goodK op m v ar.length) ar (n + 1) d d
      exact ⟨by omega, this.2.1⟩
theorem measL_up : ∀ (g : Bool) (l : List Ex) (n d h : Int), n ≤ (measL g l n d h).1 ∧ h ≤ (measL g l n d h).2.1 ∧ ((measL g l n d h).2.2 = true → g = true)
  | g, [], n, d, h => ⟨Int.le_refl _, Int.le_refl _, fun h => h⟩
  | g, a :: r, n, d, h => by
    have h1 := measE_up a n (d + 1)
    rw [measL]
    split
    · rename_i n' h' he
      rw [he] at h1
      have h2 := measL_up g r n' d (mx h h')
      have h3 := mx_l h h'
      exact ⟨by have : n < n' := h1.1; omega, by omega, h2.2.2⟩
    · rename_i n' h' he
      rw [he] at h1
      exact ⟨by have : n < n' := h1.1; show n ≤ n'; omega, mx_l h h', fun h => by cases h⟩
end
mutual
theorem meas_walk : ∀ (e : Ex) (n d H : Int), ((walkE e d n H).1 = true → (measE e n d).2.2 = true ∧ (measE e n d).1 ≤ 400 ∧ (measE e n d).2.1 ≤ 40 ∧ (walkE e d n H).2.1 = (measE e n d).1 ∧ (walkE e d n H).2.2 = mx H (measE e n d).2.1) ∧
    ((measE e n d).2.2 = true → (measE e n d).1 ≤ 400 → (walkE e d n H).1 = true)
  | .mk op m v ar, n, d, H => by
    have hu := measL_up (goodK op m v ar.length) ar (n + 1) d d
    rw [walkE, measE]
    by_cases h1 : (decide (400 < n) || decide (40 < d)) = true
    · rw [if_pos h1, if_pos (by simp only [Bool.or_eq_true, decide_eq_true_eq] at h1 ⊢; omega)]
      exact ⟨fun h => (by cases h), fun h => (by cases h)⟩
    · rw [if_neg h1]
      simp only [Bool.or_eq_true, decide_eq_true_eq, not_or] at h1
      cases hb : badE op m v ar.length with
      | true =>
        rw [if_pos (by simp)]
        refine ⟨fun h => (by cases h), fun h _ => ?_⟩
        have := hu.2.2 h
        rw [goodE_bad, hb] at this
        cases this
      | false =>
        rw [goodE_bad, hb] at hu ⊢
        by_cases h4 : 400 < n + 1
        · rw [if_pos (by simp [h4])]
          exact ⟨fun h => (by cases h), fun _ h => absurd h (by have := hu.1; omega)⟩
        · rw [if_neg (by simp; omega)]
          exact meas_walkL ar (n + 1) d d H (by omega) (by omega)
theorem meas_walkL : ∀ (l : List Ex) (n d h H : Int), n ≤ 400 → h ≤ 40 → ((walkL l (d + 1) n (mx H h)).1 = true → (measL (!false) l n d h).2.2 = true ∧ (measL (!false) l n d h).1 ≤ 400 ∧ (measL (!false) l n d h).2.1 ≤ 40 ∧ (walkL l (d + 1) n (mx H h)).2.1 = (measL (!false) l n d h).1 ∧ (walkL l (d + 1) n (mx H h)).2.2 = mx H (measL (!false) l n d h).2.1) ∧
    ((measL (!false) l n d h).2.2 = true → (measL (!false) l n d h).1 ≤ 400 → (walkL l (d + 1) n (mx H h)).1 = true)
  | [], n, d, h, H, hn, hh => by
    rw [walkL, measL]
    exact ⟨fun _ => ⟨rfl, hn, hh, rfl, rfl⟩, fun _ _ => rfl⟩
  | a :: r, n, d, h, H, hn, hh => by
    have he := meas_walk a n (d + 1) (mx H h)
    have hup := fun n' h' => measL_up (!false) r n' d h'
    rw [walkL, measL]
    rcases hm : measE a n (d + 1) with ⟨n1, h1, ok1⟩
    rcases hw : walkE a (d + 1) n (mx H h) with ⟨b1, nw, hw1⟩
    rw [hm, hw] at he
    dsimp only at he
    cases b1 with
    | true =>
      obtain ⟨e1, e2, e3, e4, e5⟩ := he.1 rfl
      subst e1
      dsimp only
      rw [e4, e5, mx_assoc]
      exact meas_walkL r n1 d (mx h h1) H e2 (mx_le hh e3)
    | false =>
      dsimp only
      refine ⟨fun h => (by cases h), fun h1' h2' => ?_⟩
      cases ok1 with
      | false => cases h1'
      | true =>
        dsimp only at h1' h2'
        have := hup n1 (mx h h1)
        have h5 : n1 ≤ 400 := by omega
        exact absurd (he.2 rfl h5) (by decide)
end
def rsizeM (e : Ex) : Int × Int := if (!(measE e 0 1).2.2 || decide (400 < (measE e 0 1).1) || decide (40 < (measE e 0 1).2.1)) = true then (401, 41) else ((measE e 0 1).1, (measE e 0 1).2.1)
theorem rsizeM_eq (e : Ex) : rsizeM e = sizeM e := by
  have h := meas_walk e 0 1 0
  have hu := measE_up e 0 1
  rw [rsizeM, sizeM]
  cases hb : (walkE e 1 0 0).1 with
  | true =>
    obtain ⟨h1, h2, h3, h4, h5⟩ := h.1 hb
    rw [if_neg (by simp [h1]; omega), if_pos rfl, h4, h5]
    have : mx 0 (measE e 0 1).2.1 = (measE e 0 1).2.1 := by unfold mx; split <;> omega
    rw [this]
  | false =>
    have hc : (!(measE e 0 1).2.2 || decide (400 < (measE e 0 1).1) || decide (40 < (measE e 0 1).2.1)) = true := by
      cases h1 : (measE e 0 1).2.2 with
      | false => rfl
      | true =>
        by_cases h2 : (measE e 0 1).1 ≤ 400
        · rw [h.2 h1 h2] at hb; cases hb
        · have : decide (400 < (measE e 0 1).1) = true := by simp only [decide_eq_true_eq]; omega
          rw [this]; rfl
    rw [if_pos hc]; rfl
end Go.Proofs.Ytnhmnfokbinplaa

namespace Go.Proofs.Ytnhmnfokbinplaa
open Go Go.RowKit
set_option maxRecDepth 100000
set_option linter.unusedSimpArgs false
set_option linter.unusedVariables false

mutual
theorem measE_ok : ∀ (e : Ex) (n d : Int), (measE e n d).2.2 = true → (measE e n d).1 ≤ 401
  | .mk op m v ar, n, d, h => by
    rw [measE] at h ⊢
    split at h
    · cases h
    · rename_i hc
      rw [if_neg hc]
      simp only [Bool.or_eq_true, decide_eq_true_eq, not_or] at hc
      exact measL_ok _ ar (n + 1) d d (by omega) h
theorem measL_ok : ∀ (g : Bool) (l : List Ex) (n d h : Int), n ≤ 401 → (measL g l n d h).2.2 = true → (measL g l n d h).1 ≤ 401
  | g, [], n, d, h, hn, _ => hn
  | g, a :: r, n, d, h, hn, hk => by
    have he := measE_ok a n (d + 1)
    rw [measL] at hk ⊢
    rcases hm : measE a n (d + 1) with ⟨n1, h1, ok1⟩
    rw [hm] at hk he
    cases ok1 with
    | true => exact measL_ok g r n1 d (mx h h1) (he rfl) hk
    | false => cases hk
end
def MeasC (e : Ex) : Prop := ∀ (cells : List PV) (n d : Int), e.cells = cells → 0 ≤ n → n ≤ 401 → 0 ≤ d → d ≤ 41 → ∃ n' h' k, measE e n d = (n', h', k) ∧ PCall Try.prog 191 [.agg cells, .int .i64 n, .int .i64 d] fun r => r = [.int .i64 n', .int .i64 h', .bool k]

set_option maxHeartbeats 4000000 in
theorem meas_c (op m vk vn : Int) (vs : ByteArray) (ar : List Ex) (es : List (List PV)) (hes : ar.map Ex.cells = es) (hal : ar.length ≤ 140737488355328) (IH : ∀ x, x ∈ ar → MeasC x) (n d n' h' : Int) (k : Bool) (hn0 : 0 ≤ n) (hn1 : n ≤ 401) (hd0 : 0 ≤ d) (hd1 : d ≤ 41) (hq : measE (.mk op m ⟨vk, vn, vs⟩ ar) n d = (n', h', k)) :
    PCall Try.prog 191 [.agg [.int .i64 op, .int .i64 m, .int .i64 vk, .int .i64 vn, .str vs, .sl es], .int .i64 n, .int .i64 d] fun r => r = [.int .i64 n', .int .i64 h', .bool k] := by
  have hel : es.length = ar.length := by rw [← hes]; simp
  rw [measE] at hq
  have hw1 : IntKind.i64.wrap (n + 1) = n + 1 := wrap_in (by omega)
  have hwd : IntKind.i64.wrap (d + 1) = d + 1 := wrap_in (by omega)
  refine PCall.x (nt := 88) (res := [.tmp 6, .tmp 7, .tmp 8]) mixed tt_ok [] Try.func191 rfl rfl rfl c191 (Nat.le_of_ble_eq_true rfl) ?_
  intro cp cc lp Q' hcp hcc hlp hQ
  repeat' (first
    | (with_reducible refine Nm.mk ?_; intro z hz)
    | (with_reducible refine IfB.mk ?_ ?_ <;> (intro h; cases h))
    | (with_reducible refine Two.l ?_; refine Asm.mk ?_ ?_; focus (decide +kernel))
    | (with_reducible refine Two.r ?_)
    | (with_reducible refine Asm.mk ?_ ?_; focus (first | kernel_rfl | decide))
    | (with_reducible refine isCP hcp ?_; first | (refine iP hcp (rarity_c op) ?_; intro z hz) | (refine vP hcp (rclean_c vk vn vs) ?_; intro v hv))
    | (with_reducible refine isCC hcc ?_; first | (refine iA hcc (rarity_c op) rfl ?_; intro z hz) | (refine vA hcc (rclean_c vk vn vs) rfl ?_; intro v hv))
    | (with_reducible refine Asm.mk2 ?_ ?_)
    | ((fail_if_success (with_reducible first | refine hQ _ ?_ | refine Side.mk ?_ | refine isCP hcp ?_ | refine isCC hcc ?_ | refine isLP hlp ?_ | refine Ix.mk ?_ | refine SIx.mk ?_ | refine SEx.mk ?_ | refine EIx.mk ?_ | refine RIx.mk ?_ | show False | refine hR ?_ _ ?_ ?_ ?_ ?_ ?_ | refine hR2 ?_ _ ?_ ?_ ?_ ?_ ?_)); cbv))
  all_goals first
    | (refine hQ _ ?_
       rw [hw1] at hz
       rw [if_pos (by simp_all), Prod.mk.injEq, Prod.mk.injEq] at hq
       obtain ⟨q1, q2, q3⟩ := hq
       rw [← hz, q1, q2, q3])
    | skip
  all_goals
    (rw [if_neg (by simp_all)] at hq
     have hd40 : d ≤ 40 := by
       have : decide (40 < d) = false := by assumption
       simp only [decide_eq_false_iff_not] at this
       omega
     have hn400 : n ≤ 400 := by
       have : decide (400 < n) = false := by assumption
       simp only [decide_eq_false_iff_not] at this
       omega
     simp only [nc] at hz
     simp only [nc'] at hz
     have hzl : z.toNat = ar.length ∧ 0 ≤ z := by omega
     obtain ⟨hzl, hzl0⟩ := hzl
     clear hz
     generalize z = zl at *
     refine loopT (ι := Int × Int × Int × Bool) mixed tt_ok hcp hcc hlp [2, 3, 61, 62] (fun p => [(1, .p (.int .i64 p.2.1)), (10, .p (.int .i64 p.2.2.1)), (63, .p (.int .i64 p.1)), (9, .p (.bool p.2.2.2))]) (fun _ => [.cells [.p (.int .i64 op), .p (.int .i64 m), .p (.int .i64 vk), .p (.int .i64 vn), .p (.str vs), .p (.sl es)]])
       (fun p => (0 ≤ p.1 ∧ p.1 ≤ zl) ∧ (0 ≤ p.2.1 ∧ p.2.1 ≤ 401) ∧ measL p.2.2.2 (ar.drop p.1.toNat) p.2.1 d p.2.2.1 = (n', h', k)) (fun p => (zl - p.1).toNat) (0, _, d, _) 1 (fun _ => rfl) ?_ ⟨rfl, rfl, rfl, rfl, trivial⟩ rfl ?_
     · rw [hw1] at hz
       refine ⟨⟨by show (0 : Int) ≤ 0; omega, by show (0 : Int) ≤ zl; omega⟩, ⟨?_, ?_⟩, Eq.trans ?_ hq⟩
       · rw [← hz]; show 0 ≤ n + 1; omega
       · rw [← hz]; show n + 1 ≤ 401; omega
       · show measL _ ar _ d d = measL _ ar (n + 1) d d
         rw [← hz]
         congr 1
         clear IH hq hQ hcp hcc hlp hd40 hn400 hn0 hn1 hd0 hd1 hwd hw1 hz
         symm
         simp only [goodK, ← hel]
         simp_all
     · rintro R ⟨i, n1, h1, g⟩ ⟨⟨hi0, hi1⟩, ⟨hb0, hb1⟩, hw⟩ hR
       replace hi0 : 0 ≤ i := hi0
       replace hi1 : i ≤ zl := hi1
       replace hb0 : 0 ≤ n1 := hb0
       replace hb1 : n1 ≤ 401 := hb1
       replace hw : measL g (ar.drop i.toNat) n1 d h1 = (n', h', k) := hw
       have hk : decide (i < zl) = true → i < ar.length := by simp only [decide_eq_true_eq]; omega
       have hki : decide (i < zl) = true → i + 1 ≤ zl ∧ i < 9223372036854775806 := by simp only [decide_eq_true_eq]; omega
       have hpc : ∀ (op' m' vk' vn' : Int) (vs' : ByteArray) (ar' : List Ex) (es' : List (List PV)), ar[i.toNat]? = some (.mk op' m' ⟨vk', vn', vs'⟩ ar') → ar'.map Ex.cells = es' → ∀ w, IntKind.i64.wrap (d + 1) = w → ∃ n2 h2 k2, measE (.mk op' m' ⟨vk', vn', vs'⟩ ar') n1 (d + 1) = (n2, h2, k2) ∧
           PCall Try.prog 191 [.agg [.int .i64 op', .int .i64 m', .int .i64 vk', .int .i64 vn', .str vs', .sl es'], .int .i64 n1, .int .i64 w] fun r => r = [.int .i64 n2, .int .i64 h2, .bool k2] := by
         intro op' m' vk' vn' vs' ar' es' hx he w hwe
         rw [hwd] at hwe
         subst hwe
         exact IH _ (List.mem_of_getElem? hx) _ n1 (d + 1) (by rw [cells_mk, he]) hb0 hb1 (by omega) (by omega)
       have hdr : ∀ x, ar[i.toNat]? = some x → ar.drop i.toNat = x :: ar.drop (i + 1).toNat := by
         intro x hx
         rw [List.drop_eq_getElem_cons (List.getElem?_eq_some_iff.1 hx).1, (List.getElem?_eq_some_iff.1 hx).2, show (i + 1).toNat = i.toNat + 1 by omega]
       repeat' (first
         | (with_reducible refine Nm.mk ?_; intro z hz)
         | (with_reducible refine IfB.mk ?_ ?_ <;> (intro h; cases h))
         | (with_reducible refine Two.l ?_; refine Asm.mk ?_ ?_; focus (decide +kernel))
         | (with_reducible refine Two.r ?_)
         | (with_reducible refine Asm.mk ?_ ?_; focus (show (_ : Bool) = true; kernel_rfl))
         | (with_reducible refine Ix.ex hes hi0 (hk (by assumption)) ?_; intro op' m' vk' vn' vs' ar' es' hx hes')
         | (with_reducible refine isCC hcc ?_; obtain ⟨n2, h2, k2, hm2, hcall⟩ := hpc _ _ _ _ _ _ _ hx hes' _ (by assumption); refine xA hcc hcall rfl ?_)
         | (with_reducible refine Asm.mk2 ?_ ?_)
         | ((fail_if_success (with_reducible first | refine hQ _ ?_ | refine Side.mk ?_ | refine isCP hcp ?_ | refine isCC hcc ?_ | refine isLP hlp ?_ | refine Ix.mk ?_ | refine SIx.mk ?_ | refine SEx.mk ?_ | refine EIx.mk ?_ | refine RIx.mk ?_ | show False | refine hR ?_ _ ?_ ?_ ?_ ?_ ?_ | refine hR2 ?_ _ ?_ ?_ ?_ ?_ ?_)); cbv))
       all_goals first
         | (have hk2 : k2 = false := by simpa using (show (!k2) = true from hz)
            refine hQ _ ?_
            rename_i zm hzm
            rw [hdr _ hx, measL, hm2, hk2] at hw
            simp only [Prod.mk.injEq] at hw
            obtain ⟨q1, q2, q3⟩ := hw
            rw [q1, ← hzm, ← q3, ← q2]
            rfl)
         | (refine hQ _ ?_
            have hge : ar.length ≤ i.toNat := by
              have : decide (i < zl) = false := by assumption
              simp only [decide_eq_false_iff_not] at this
              omega
            rw [List.drop_eq_nil_of_le hge, measL] at hw
            simp only [Prod.mk.injEq] at hw
            obtain ⟨q1, q2, q3⟩ := hw
            rw [q1, q2, q3])
         | (have hk2 : k2 = true := by simpa using (show (!k2) = false by assumption)
            have hlt := hki (by assumption)
            rename_i zm hzm _
            rw [hdr _ hx, measL, hm2, hk2] at hw
            have hm3 := measE_ok (.mk op' m' ⟨vk', vn', vs'⟩ ar') n1 (d + 1)
            have hm4 := measE_up (.mk op' m' ⟨vk', vn', vs'⟩ ar') n1 (d + 1)
            rw [hm2] at hm3 hm4
            have hm3' : n2 ≤ 401 := hm3 hk2
            have hm4' : n1 < n2 := hm4.1
            have hwi : IntKind.i64.wrap (i + 1) = i + 1 := wrap_in (by omega)
            rw [hwi] at hz
            refine hR (i + 1, n2, zm, g) _ ⟨⟨by show 0 ≤ i + 1; omega, by show i + 1 ≤ zl; omega⟩, ⟨by show 0 ≤ n2; omega, hm3'⟩, ?_⟩ (by show (zl - (i + 1)).toNat < (zl - i).toNat; omega) ⟨rfl, rfl, hz ▸ rfl, rfl, trivial⟩ ⟨rfl, rfl, rfl, rfl, trivial⟩ rfl
            show measL g (ar.drop (i + 1).toNat) n2 d zm = (n', h', k)
            rw [← hw, ← hzm]
            rfl))
theorem meas_all : ∀ (m : Nat) (e : Ex), e.sz ≤ m → e.wide → MeasC e
  | 0, .mk op m v ar, h, _ => by simp [Ex.sz] at h
  | k + 1, .mk op m ⟨vk, vn, vs⟩ ar, h, hw => by
    intro cells n d he hn0 hn1 hd0 hd1
    rw [cells_mk] at he
    subst he
    have hwi : wideN ar.length ∧ wideL ar := by rw [Ex.wide] at hw; exact hw
    have hwn : wideN ar.length := hwi.1
    unfold wideN at hwn
    refine ⟨_, _, _, rfl, meas_c op m vk vn vs ar _ rfl (by omega) (fun x hx => meas_all k x ?_ (wide_mem hwi.2 hx)) n d _ _ _ hn0 hn1 hd0 hd1 rfl⟩
    have := sz_mem hx
    simp only [Ex.sz] at h; omega
theorem rsize_c (op n vk vn : Int) (vs : ByteArray) (ar : List Ex) (es : List (List PV)) (hes : ar.map Ex.cells = es) (hw : (Ex.mk op n ⟨vk, vn, vs⟩ ar).wide) :
    PCall Try.prog 182 [.agg [.int .i64 op, .int .i64 n, .int .i64 vk, .int .i64 vn, .str vs, .sl es]] fun r => r = [.int .i64 (sizeM (.mk op n ⟨vk, vn, vs⟩ ar)).1, .int .i64 (sizeM (.mk op n ⟨vk, vn, vs⟩ ar)).2] := by
  obtain ⟨n', h', k, hm, hcall⟩ := meas_all _ (.mk op n ⟨vk, vn, vs⟩ ar) (Nat.le_refl _) hw _ 0 1 (by rw [cells_mk]) (by decide) (by decide) (by decide) (by decide)
  rw [← rsizeM_eq, rsizeM, hm]
  rw [hes] at hcall
  refine PCall.x (nt := 25) (res := [.tmp 2, .tmp 3]) mixed tt_ok [] Try.func182 rfl rfl rfl c182 (Nat.le_of_ble_eq_true rfl) ?_
  intro cp cc lp Q' hcp hcc hlp hQ
  repeat' (first
    | (with_reducible refine Nm.mk ?_; intro z hz)
    | (with_reducible refine IfB.mk ?_ ?_ <;> (intro h; cases h))
    | (with_reducible refine Two.l ?_; refine Asm.mk ?_ ?_; focus (decide +kernel))
    | (with_reducible refine Two.r ?_)
    | (with_reducible refine Asm.mk ?_ ?_; focus (first | kernel_rfl | decide))
    | (with_reducible refine isCP hcp ?_; first | (refine xP hcp (hcall) ?_; skip))
    | (with_reducible refine isCC hcc ?_; first | (refine xA hcc (hcall) rfl ?_; skip))
    | (with_reducible refine Asm.mk2 ?_ ?_)
    | ((fail_if_success (with_reducible first | refine hQ _ ?_ | refine Side.mk ?_ | refine isCP hcp ?_ | refine isCC hcc ?_ | refine isLP hlp ?_ | refine Ix.mk ?_ | refine SIx.mk ?_ | refine SEx.mk ?_ | refine EIx.mk ?_ | refine RIx.mk ?_ | show False | refine hR ?_ _ ?_ ?_ ?_ ?_ ?_ | refine hR2 ?_ _ ?_ ?_ ?_ ?_ ?_)); cbv))
  all_goals (refine hQ _ ?_; clear hQ hcp hcc hlp; simp_all)
  all_goals (rw [if_neg (by omega)]; exact ⟨rfl, rfl⟩)
theorem rbuilt_c (op n vk vn : Int) (vs : ByteArray) (ar : List Ex) (es : List (List PV)) (hes : ar.map Ex.cells = es) (hw : (Ex.mk op n ⟨vk, vn, vs⟩ ar).wide) :
    PCall Try.prog 138 [.agg [.int .i64 op, .int .i64 n, .int .i64 vk, .int .i64 vn, .str vs, .sl es]] fun r => r = [.bool (builtM (.mk op n ⟨vk, vn, vs⟩ ar))] := by
  have h := rsize_c op n vk vn vs ar es hes hw
  rw [builtM]
  generalize sizeM (.mk op n ⟨vk, vn, vs⟩ ar) = p at *
  obtain ⟨a, b⟩ := p
  refine PCall.x (nt := 12) (res := [.tmp 2]) mixed tt_ok [] Try.func138 rfl rfl rfl c138 (Nat.le_of_ble_eq_true rfl) ?_
  intro cp cc lp Q' hcp hcc hlp hQ
  repeat' (first
    | (with_reducible refine Nm.mk ?_; intro z hz)
    | (with_reducible refine IfB.mk ?_ ?_ <;> (intro h; cases h))
    | (with_reducible refine Two.l ?_; refine Asm.mk ?_ ?_; focus (decide +kernel))
    | (with_reducible refine Two.r ?_)
    | (with_reducible refine Asm.mk ?_ ?_; focus (first | kernel_rfl | decide))
    | (with_reducible refine isCP hcp ?_; first | (refine xP hcp (h) ?_; skip))
    | (with_reducible refine isCC hcc ?_; first | (refine xA hcc (h) rfl ?_; skip))
    | (with_reducible refine Asm.mk2 ?_ ?_)
    | ((fail_if_success (with_reducible first | refine hQ _ ?_ | refine Side.mk ?_ | refine isCP hcp ?_ | refine isCC hcc ?_ | refine isLP hlp ?_ | refine Ix.mk ?_ | refine SIx.mk ?_ | refine SEx.mk ?_ | refine EIx.mk ?_ | refine RIx.mk ?_ | show False | refine hR ?_ _ ?_ ?_ ?_ ?_ ?_ | refine hR2 ?_ _ ?_ ?_ ?_ ?_ ?_)); cbv))
  all_goals (refine hQ _ ?_; clear hQ hcp hcc hlp; simp_all)
end Go.Proofs.Ytnhmnfokbinplaa

namespace Go.Proofs.Ytnhmnfokbinplaa
open Go Go.RowKit
set_option maxRecDepth 100000
set_option linter.unusedSimpArgs false
set_option linter.unusedVariables false

def insAt (x : Int) : List Int → Nat
  | [] => 0
  | y :: r => if y < x then insAt x r + 1 else 0
def insC (x : Int) (L : List Int) : List Int := if L[insAt x L]? = some x then L else L.take (insAt x L) ++ x :: L.drop (insAt x L)
mutual
def colsE : Ex → List Int → List Int
  | .mk op n _ ar, L => colsKL ar (if op = 1 then insC n L else L)
def colsKL : List Ex → List Int → List Int
  | [], L => L
  | e :: r, L => colsKL r (colsE e L)
end
theorem insAt_le (x : Int) : ∀ L : List Int, insAt x L ≤ L.length
  | [] => Nat.le_refl _
  | y :: r => by
    have := insAt_le x r
    rw [insAt]; split <;> simp; omega
theorem insAt_lt (x : Int) : ∀ (L : List Int) (i : Nat) (y : Int), i < insAt x L → L[i]? = some y → y < x
  | [], i, y, h, _ => by simp [insAt] at h
  | z :: r, i, y, h, hy => by
    rw [insAt] at h
    split at h
    · cases i with
      | zero => simp at hy; omega
      | succ i => exact insAt_lt x r i y (by omega) (by simpa using hy)
    · omega
theorem insAt_at (x : Int) : ∀ (L : List Int) (y : Int), L[insAt x L]? = some y → ¬ y < x
  | [], y, h => by simp [insAt] at h
  | z :: r, y, h => by
    rw [insAt] at h
    split at h
    · exact insAt_at x r y (by simpa using h)
    · simp at h; omega
theorem insC_len (x : Int) (L : List Int) : (insC x L).length ≤ L.length + 1 := by
  have := insAt_le x L
  rw [insC]; split
  · omega
  · simp; omega

/-- An argument told by its parts is the whole. -/
theorem ACall.headK {P : Program} {f : FuncId} {x : AV} {y : PV} {args : List AV} {H : List AObj} {Q : AV → List AObj → Prop} (h : ACall P f (.p y :: args) H Q) (hx : pureX x = some y) : ACall P f (x :: args) H Q :=
  ⟨fun B G w vals wr rv => h.run B G w vals wr ⟨rv.1, fun i z v hz hv => by
    cases i with
    | zero =>
      simp only [List.getElem?_cons_zero, Option.some.injEq] at hz
      subst hz
      rw [pureX_eq] at hx
      exact .p (pure_ok (rv.2 0 x v rfl hv) hx)
    | succ i => exact rv.2 (i + 1) z v hz hv⟩⟩
theorem frameK {P : Program} {cc : FuncId → List AV → List AObj → (AV → List AObj → Prop) → Prop} (hcc : ACall P = cc) {f : FuncId} {args0 args rest : List AV} {x : AV} {y : PV} {H0 H1 H : List AObj} {X : AV} {K : AV → List AObj → Prop} (s : List Nat)
    (h : ACall P f (.p y :: args0) H0 fun r H' => r = X ∧ takeX H' (lenX H1) = H1) (hs : onceX s = true) (hl : lenX H1 = lenX s) (ha : args = x :: rest) (hx : pureX x = some y) (hr : rest = AV.renL s args0) (hH : optL (nth H) s = some (mapX (AObj.ren s) H0)) (hlt : (AV.ltL (lenX s) (.p y :: args0) && ltH (lenX s) H0 && (AV.ltB (lenX s) X && ltH (lenX s) H1)) = true)
    (k : K (AV.ren s X) (backX s s H1 H)) : cc f args H K := by
  subst hcc ha
  rw [lenX_eq s] at hl hlt
  rw [Bool.and_eq_true, Bool.and_eq_true (AV.ltB _ _)] at hlt
  refine ACall.headK ?_ hx
  rw [show (AV.p y :: rest) = AV.renL s (.p y :: args0) by rw [hr]; rfl]
  refine h.frame s hs rfl hH hlt.1 ?_
  rintro r H' ⟨rfl, hH'⟩
  rw [hl] at hH'
  rw [hH']
  exact ⟨hlt.2.1, by rw [← lenX_eq]; exact hl, hlt.2.2, k⟩


def colH (g n : Nat) (C : List (List PV)) : List AObj := [.cells [.vec 2 g 1 0 n], .cells [.fn 183 [.ref 0 0, .ref 1 0]], .vec g C 1]
def insG (x : Int) (p : Nat × List Int) : Nat × List Int := if p.2[insAt x p.2]? = some x then p else (p.1 + 1, p.2.take (insAt x p.2) ++ x :: p.2.drop (insAt x p.2))
mutual
def colsG : Ex → Nat × List Int → Nat × List Int
  | .mk op n _ ar, p => colsGL ar (if op = 1 then insG n p else p)
def colsGL : List Ex → Nat × List Int → Nat × List Int
  | [], p => p
  | e :: r, p => colsGL r (colsG e p)
end
theorem insG_2 (x : Int) (p : Nat × List Int) : (insG x p).2 = insC x p.2 := by
  rw [insG, insC]; split <;> rfl
mutual
theorem colsG_2 : ∀ (e : Ex) (p : Nat × List Int), (colsG e p).2 = colsE e p.2
  | .mk op n v ar, p => by
    rw [colsG, colsE, colsGL_2]
    split
    · rw [insG_2]
    · rfl
theorem colsGL_2 : ∀ (l : List Ex) (p : Nat × List Int), (colsGL l p).2 = colsKL l p.2
  | [], p => rfl
  | e :: r, p => by rw [colsGL, colsKL, colsGL_2, colsG_2]
end
mutual
theorem colsG_len : ∀ (e : Ex) (p : Nat × List Int), (colsG e p).2.length ≤ p.2.length + e.sz
  | .mk op n v ar, p => by
    rw [colsG, Ex.sz]
    have := colsGL_len ar (if op = 1 then insG n p else p)
    have h : (if op = 1 then insG n p else p).2.length ≤ p.2.length + 1 := by
      split
      · rw [insG_2]; exact insC_len n p.2
      · omega
    omega
theorem colsGL_len : ∀ (l : List Ex) (p : Nat × List Int), (colsGL l p).2.length ≤ p.2.length + szL l
  | [], p => by simp [colsGL, szL]
  | e :: r, p => by
    rw [colsGL, szL]
    have := colsGL_len r (colsG e p)
    have := colsG_len e p
    omega
end
def ColC (e : Ex) : Prop := ∀ (cells : List PV) (g : Nat) (L : List Int) (n : Nat) (C : List (List PV)), e.cells = cells → L.map i64c = C → C.length = n → L.length + e.sz ≤ 1000000 →
  ∃ g' L' n' C', colsG e (g, L) = (g', L') ∧ L'.map i64c = C' ∧ C'.length = n' ∧ ACall Try.prog 183 [.p (.agg cells), .ref 0 0, .ref 1 0] (colH g n C) fun r H' => r = .tup [] ∧ takeX H' 3 = colH g' n' C'

set_option maxHeartbeats 4000000 in
theorem col_c (op m vk vn : Int) (vs : ByteArray) (ar : List Ex) (es : List (List PV)) (hes : ar.map Ex.cells = es) (hal : ar.length ≤ 140737488355328) (IH : ∀ x, x ∈ ar → ColC x) (g : Nat) (L : List Int) (n : Nat) (C : List (List PV)) (hC : L.map i64c = C) (hn : C.length = n) (hsz : L.length + (szL ar + 1) ≤ 1000000)
    (g' : Nat) (L' : List Int) (n' : Nat) (C' : List (List PV)) (hq : colsG (.mk op m ⟨vk, vn, vs⟩ ar) (g, L) = (g', L')) (hC' : L'.map i64c = C') (hn' : C'.length = n') :
    ACall Try.prog 183 [.p (.agg [.int .i64 op, .int .i64 m, .int .i64 vk, .int .i64 vn, .str vs, .sl es]), .ref 0 0, .ref 1 0] (colH g n C) fun r H' => r = .tup [] ∧ takeX H' 3 = colH g' n' C' := by
  have hel : es.length = ar.length := by rw [← hes]; simp
  rw [colsG] at hq
  have hCl : C.length = L.length := by rw [← hC]; simp
  refine ACall.x (nt := 60) (res := []) mixed tt_ok [] Try.func183 rfl rfl rfl c183 (Nat.le_of_ble_eq_true rfl) ?_
  intro cp cc lp Q' hcp hcc hlp hQ
  repeat' (first
    | (with_reducible refine Nm.mk ?_; intro z hz)
    | (with_reducible refine IfB.mk ?_ ?_ <;> (intro h; cases h))
    | (with_reducible refine Two.l ?_; refine Asm.mk ?_ ?_; focus (decide +kernel))
    | (with_reducible refine Two.r ?_)
    | (with_reducible refine Asm.mk ?_ ?_; focus (first | kernel_rfl | decide))
    | (with_reducible refine Asm.mk2 ?_ ?_)
    | ((fail_if_success (with_reducible first | refine hQ _ _ ?_ | refine Side.mk ?_ | refine isCP hcp ?_ | refine isCC hcc ?_ | refine isLP hlp ?_ | refine Ix.mk ?_ | refine SIx.mk ?_ | refine SEx.mk ?_ | refine EIx.mk ?_ | refine RIx.mk ?_ | show False | refine hR ?_ _ ?_ ?_ ?_ ?_ ?_ | refine hR2 ?_ _ ?_ ?_ ?_ ?_ ?_)); cbv))
  · have hop : op = 1 := by simpa using (show decide (op = 1) = true by assumption)
    rw [if_pos hop] at hq
    obtain ⟨at0, hat⟩ : ∃ a, insAt m L = a := ⟨_, rfl⟩
    have hatl : at0 ≤ L.length := by rw [← hat]; exact insAt_le m L
    have hget : ∀ (k : Nat) (y : Int), L[k]? = some y → C[k]? = some [.int .i64 y] := by
      intro k y h; rw [← hC, List.getElem?_map, h]; rfl
    refine loopK (ι := Int) mixed tt_ok hcp hcc hlp [1, 2, 3] (fun i => [(4, .p (.int .i64 i))]) (fun i => 0 ≤ i ∧ i.toNat ≤ at0) (fun i => at0 - i.toNat) 0 (fun _ => rfl) ⟨by decide, Nat.zero_le _⟩ ⟨rfl, trivial⟩ ?_
    rintro R i ⟨hi0, hi1⟩ hR
    obtain ⟨y0, hy0⟩ : ∃ y, (L[i.toNat]?).getD 0 = y := ⟨_, rfl⟩
    have hidx : ∀ z : Int, (n : Int) = z → decide (i < z) = true → C[i.toNat]? = some [.int .i64 y0] := by
      intro z h1 h2
      simp only [decide_eq_true_eq] at h2
      have hlt : i.toNat < L.length := by omega
      refine hget _ _ ?_
      rw [← hy0, List.getElem?_eq_getElem hlt]; rfl
    have hoff : ∀ {z : Nat}, (0 + i.toNat) * 1 = z → i.toNat * 1 = z := by intro z h; omega
    have hin : ∀ {z : Int}, decide (i < z) = true → (n : Int) = z → 0 ≤ i ∧ i < (n : Int) := by
      intro z h1 h2; simp only [decide_eq_true_eq] at h1; omega
    have hin2 : ∀ {z : Int}, decide (i = z) = false → (n : Int) = z → 0 ≤ i ∧ i < (n : Int) := by
      intro z h1 h2; simp only [decide_eq_false_iff_not] at h1; omega
    have hidx2 : ∀ {z : Int}, decide (i = z) = false → (n : Int) = z → C[i.toNat]? = some [.int .i64 y0] := by
      intro z h1 h2
      simp only [decide_eq_false_iff_not] at h1
      refine hidx z h2 ?_
      simp only [decide_eq_true_eq]; omega
    have hile : i ≤ (n : Int) := by omega
    have hnl : n = L.length := by omega
    have hposA : ∀ {z : Int}, decide (i = z) = true → (n : Int) = z → i.toNat = at0 := by
      intro z h1 h2; simp only [decide_eq_true_eq] at h1; omega
    have hLy : i.toNat < L.length → L[i.toNat]? = some y0 := by
      intro h; rw [← hy0, List.getElem?_eq_getElem h]; rfl
    have hposB : ∀ {z : Int}, decide (y0 < m) = false → decide (i < z) = true → (n : Int) = z → i.toNat = at0 := by
      intro z h1 h2 h3
      simp only [decide_eq_true_eq, decide_eq_false_iff_not] at h1 h2
      rcases Nat.lt_or_ge i.toNat at0 with h | h
      · exact absurd (insAt_lt m L i.toNat y0 (by rw [hat]; exact h) (hLy (by omega))) h1
      · omega
    have hnotA : ∀ {z : Int}, decide (i = z) = true → (n : Int) = z → ¬ L[at0]? = some m := by
      intro z h1 h2 h3
      have := hposA h1 h2
      simp only [decide_eq_true_eq] at h1
      have := (List.getElem?_eq_some_iff.1 h3).1
      omega
    have hnotB : ∀ {z : Int}, (!decide (y0 = m)) = true → decide (y0 < m) = false → decide (i < z) = true → (n : Int) = z → ¬ L[at0]? = some m := by
      intro z h1 h2 h3 h4 h5
      have hp := hposB h2 h3 h4
      simp only [decide_eq_true_eq] at h3
      have e : ¬ y0 = m := by simpa using h1
      rw [← hp, hLy (by omega)] at h5
      simp only [Option.some.injEq] at h5
      exact e h5
    have hyes : ∀ {z : Int}, (!decide (y0 = m)) = false → decide (y0 < m) = false → decide (i < z) = true → (n : Int) = z → L[at0]? = some m := by
      intro z h1 h2 h3 h4
      have hp := hposB h2 h3 h4
      simp only [decide_eq_true_eq] at h3
      have e : y0 = m := by simpa using h1
      rw [← hp, ← e]; exact hLy (by omega)
    have hno : ∀ {z z2 : Int}, decide (i < z) = false → decide (i = z2) = false → (n : Int) = z → (n : Int) = z2 → False := by
      intro z z2 h1 h2 h3 h4
      simp only [decide_eq_false_iff_not] at h1 h2
      omega
    have hstep : ∀ {z : Int}, decide (i < z) = true → (n : Int) = z → decide (y0 < m) = true → IntKind.i64.wrap (i + 1) = i + 1 ∧ (i + 1).toNat ≤ at0 := by
      intro z h1 h2 h3
      simp only [decide_eq_true_eq] at h1 h3
      refine ⟨wrap_in (by omega), ?_⟩
      rcases Nat.lt_or_ge i.toNat at0 with h | h
      · omega
      · have he : i.toNat = at0 := by omega
        have := hLy (by omega)
        rw [he, ← hat] at this
        exact absurd h3 (insAt_at m L y0 this)
    have hok : okEs 1 C = true := by rw [← hC]; exact List.all_eq_true.2 fun e he => by obtain ⟨c, _, rfl⟩ := List.mem_map.1 he; rfl
    have hokt : ∀ k, okEs 1 (C.take k) = true := fun k => List.all_eq_true.2 fun e he => List.all_eq_true.1 hok e (List.mem_of_mem_take he)
    have hokd : ∀ k j, okEs 1 ((C.drop k).take j) = true := fun k j => List.all_eq_true.2 fun e he => List.all_eq_true.1 hok e (List.mem_of_mem_drop (List.mem_of_mem_take he))
    have hokm : okEs 1 [[PV.int .i64 m]] = true := rfl
    have hA : (0 : Int) ≤ 0 ∧ 0 ≤ i ∧ i ≤ (n : Int) := ⟨by decide, hi0, hile⟩
    have hB : 0 ≤ i ∧ i ≤ Int.ofNat n ∧ Int.ofNat n ≤ (n : Int) := ⟨hi0, hile, Int.le_refl _⟩
    have hC3 : ∀ {x y : Nat}, 0 + i.toNat = x → (Int.ofNat n).toNat - i.toNat = y → g = g ∧ 1 = 1 ∧ x + y ≤ C.length := by
      intro x y h1 h2
      have : (Int.ofNat n).toNat = n := rfl
      exact ⟨rfl, rfl, by omega⟩
    have hD : ∀ {x y : Nat} {z : List (List PV)}, (C.drop x).take y = z → okEs 1 [[PV.int .i64 m]] = true ∧ okEs 1 z = true ∧ [[PV.int .i64 m]].length + z.length ≤ maxLen ∧ ([[PV.int .i64 m]].length + z.length) * 8 ≤ 140737488355328 := by
      intro x y z h
      have hl : z.length ≤ 1000000 := by rw [← h, List.length_take, List.length_drop]; omega
      exact ⟨rfl, by rw [← h]; exact hokd x y, by simp only [List.length_cons, List.length_nil, maxLen]; omega, by simp only [List.length_cons, List.length_nil]; omega⟩
    have hE : ∀ {x y u v : Nat} {z z' : List (List PV)}, 0 + Int.toNat 0 = x → i.toNat - Int.toNat 0 = y → (C.drop u).take v = z → [[PV.int .i64 m]] ++ z = z' → g = g ∧ 1 = 1 ∧ x = 0 ∧ y ≤ C.length ∧ okEs 1 (C.take y) = true ∧ okEs 1 z' = true ∧ y + z'.length ≤ maxLen ∧ (y + z'.length) * 8 ≤ 140737488355328 := by
      intro x y u v z z' h1 h2 h3 h4
      have hl : z.length ≤ 1000000 := by rw [← h3, List.length_take, List.length_drop]; omega
      have h0 : Int.toNat 0 = 0 := rfl
      have hl2 : z'.length = 1 + z.length := by rw [← h4, List.length_append]; rfl
      refine ⟨rfl, rfl, by omega, by omega, hokt y, ?_, by simp only [maxLen]; omega, by omega⟩
      rw [← h4, ← h3]
      exact List.all_eq_true.2 fun e he => by
        rcases List.mem_append.1 he with h | h
        · exact List.all_eq_true.1 hokm e h
        · exact List.all_eq_true.1 (hokd u v) e h
    repeat' (first
      | (with_reducible refine Nm.mk ?_; intro z hz)
      | (with_reducible refine IfB.mk ?_ ?_ <;> (intro h; cases h))
      | (with_reducible refine Two.l ?_; refine Asm.mk ?_ ?_; focus (decide +kernel))
      | (with_reducible refine Two.r ?_)
      | (with_reducible refine Asm.mk ?_ ?_; focus (first | rfl | exact hin (by assumption) (by assumption) | exact hin2 (by assumption) (by assumption) | exact hA | exact hB | exact hC3 (by assumption) (by assumption) | exact hD (by assumption) | exact hE (by assumption) (by assumption) (by assumption) (by assumption) | (show (_ : Bool) = true; kernel_rfl)))
      | (with_reducible refine EIx.at_ i.toNat [.int .i64 y0] (hoff (by assumption)) (hidx _ (by assumption) (by assumption)) ?_)
      | (with_reducible refine EIx.at_ i.toNat [.int .i64 y0] (hoff (by assumption)) (hidx2 (by assumption) (by assumption)) ?_)
      | (with_reducible refine Asm.mk2 ?_ ?_)
      | ((fail_if_success (with_reducible first | refine hQ _ _ ?_ | refine Side.mk ?_ | refine isCP hcp ?_ | refine isCC hcc ?_ | refine isLP hlp ?_ | refine Ix.mk ?_ | refine SIx.mk ?_ | refine SEx.mk ?_ | refine EIx.mk ?_ | refine RIx.mk ?_ | show False | refine hR ?_ _ ?_ ?_ ?_ ?_ ?_ | refine hR2 ?_ _ ?_ ?_ ?_ ?_ ?_)); cbv))
    · have hlt : decide (y0 < m) = true := by assumption
      have hst := hstep (by assumption) (by assumption) hlt
      rw [hst.1] at hz
      exact hR (i + 1) _ ⟨by omega, hst.2⟩ (by omega) ⟨hz ▸ rfl, trivial⟩ ⟨rfl, rfl, rfl, trivial⟩ rfl
    · skip
      rename_i pz hpz pb hpb pu hpu pv hpv pd hpd pe hpe p3 hp3 pg hpg pn hpn pC hpC
      have hie : i.toNat = at0 := by first | exact hposA (by assumption) (by assumption) | exact hposB (by assumption) (by assumption) (by assumption)
      have hnot : ¬ L[at0]? = some m := by first | exact hnotA (by assumption) (by assumption) | exact hnotB (by assumption) (by assumption) (by assumption) (by assumption)
      rw [insG, hat, if_neg hnot] at hq
      have hb0 : pb = at0 := by
        have : Int.toNat 0 = 0 := rfl
        omega
      have hu0 : pu = at0 := by omega
      have hv0 : pv = n - at0 := by
        have : (Int.ofNat n).toNat = n := rfl
        omega
      have hcg : colsGL (ar.drop 0) (pg, L.take at0 ++ m :: L.drop at0) = (g', L') := by rw [List.drop_zero, ← hpg]; exact hq
      have hC1 : (L.take at0 ++ m :: L.drop at0).map i64c = pC := by
        rw [← hpC, ← hpe, ← hpd, hb0, hu0, hv0, ← hC, List.map_append, List.map_take, List.map_cons, List.map_drop, List.take_of_length_le (l := List.drop at0 (L.map i64c)) (by rw [List.length_drop, List.length_map]; omega)]
        rfl
      have hn1 : pC.length = pn := by rw [← hpC, ← hpn, List.length_append, List.length_take, Nat.min_eq_left (by omega)]
      have hsz1 : (L.take at0 ++ m :: L.drop at0).length + szL (ar.drop 0) ≤ 1000000 := by
        rw [List.drop_zero, List.length_append, List.length_take, List.length_cons, List.length_drop]; omega
      clear hpz hpb hpu hpv hpd hpe hp3 hpg hpn hpC hidx hoff hin hin2 hidx2 hok hokt hokd hokm hA hB hC3 hD hE hposA hposB hnotA hnotB hget hile hR
      all_goals (try simp only [nc] at hz)
      all_goals (try simp only [nc'] at hz)
      have hzl : z.toNat = ar.length ∧ 0 ≤ z := by omega
      obtain ⟨hzl, hzl0⟩ := hzl
      clear hz
      generalize z = zl at *
      refine loopT (ι := Int × Nat × List Int × Nat × List (List PV)) mixed tt_ok hcp hcc hlp [1, 2, 50, 51] (fun p => [(52, .p (.int .i64 p.1))]) (fun p => [.cells [.vec 2 p.2.1 1 0 p.2.2.2.1], .cells [.fn 183 [.ref 0 0, .ref 1 0]], .vec p.2.1 p.2.2.2.2 1, .cells [.p (.int .i64 op), .p (.int .i64 m), .p (.int .i64 vk), .p (.int .i64 vn), .p (.str vs), .p (.sl es)], .spare p3 1])
        (fun p => (0 ≤ p.1 ∧ p.1 ≤ zl) ∧ p.2.2.1.map i64c = p.2.2.2.2 ∧ p.2.2.2.2.length = p.2.2.2.1 ∧ p.2.2.1.length + szL (ar.drop p.1.toNat) ≤ 1000000 ∧ colsGL (ar.drop p.1.toNat) (p.2.1, p.2.2.1) = (g', L')) (fun p => (zl - p.1).toNat) (0, _, _, _, _) 5 (fun _ => rfl) ⟨⟨by show (0 : Int) ≤ 0; omega, by show (0 : Int) ≤ zl; omega⟩, hC1, hn1, hsz1, hcg⟩ ⟨rfl, trivial⟩ rfl ?_
      rintro R ⟨i, g2, L2, n2, C2⟩ ⟨⟨hi0, hi1⟩, hC2, hn2, hsz2, hcg2⟩ hR
      replace hi0 : 0 ≤ i := hi0
      replace hi1 : i ≤ zl := hi1
      replace hC2 : L2.map i64c = C2 := hC2
      replace hn2 : C2.length = n2 := hn2
      replace hsz2 : L2.length + szL (ar.drop i.toNat) ≤ 1000000 := hsz2
      replace hcg2 : colsGL (ar.drop i.toNat) (g2, L2) = (g', L') := hcg2
      have hk : decide (i < zl) = true → i < ar.length := by simp only [decide_eq_true_eq]; omega
      have hki : decide (i < zl) = true → i + 1 ≤ zl ∧ i < 9223372036854775806 := by simp only [decide_eq_true_eq]; omega
      have hdr : ∀ x, ar[i.toNat]? = some x → ar.drop i.toNat = x :: ar.drop (i + 1).toNat := by
        intro x hx
        rw [List.drop_eq_getElem_cons (List.getElem?_eq_some_iff.1 hx).1, (List.getElem?_eq_some_iff.1 hx).2, show (i + 1).toNat = i.toNat + 1 by omega]
      have hpc : ∀ (op' m' vk' vn' : Int) (vs' : ByteArray) (ar' : List Ex) (es' : List (List PV)), ar[i.toNat]? = some (.mk op' m' ⟨vk', vn', vs'⟩ ar') → ar'.map Ex.cells = es' → ∃ g3 L3 n3 C3, colsG (.mk op' m' ⟨vk', vn', vs'⟩ ar') (g2, L2) = (g3, L3) ∧ L3.map i64c = C3 ∧ C3.length = n3 ∧
          ACall Try.prog 183 [.p (.agg [.int .i64 op', .int .i64 m', .int .i64 vk', .int .i64 vn', .str vs', .sl es']), .ref 0 0, .ref 1 0] (colH g2 n2 C2) fun r H' => r = .tup [] ∧ takeX H' 3 = colH g3 n3 C3 := by
        intro op' m' vk' vn' vs' ar' es' hx he
        have hb : L2.length + (Ex.mk op' m' ⟨vk', vn', vs'⟩ ar').sz ≤ 1000000 := by
          rw [hdr _ hx, szL] at hsz2; omega
        exact IH _ (List.mem_of_getElem? hx) _ g2 L2 n2 C2 (by rw [cells_mk, he]) hC2 hn2 hb
      repeat' (first
        | (with_reducible refine Nm.mk ?_; intro z hz)
        | (with_reducible refine IfB.mk ?_ ?_ <;> (intro h; cases h))
        | (with_reducible refine Two.l ?_; refine Asm.mk ?_ ?_; focus (decide +kernel))
        | (with_reducible refine Two.r ?_)
        | (with_reducible refine Asm.mk ?_ ?_; focus (show (_ : Bool) = true; kernel_rfl))
        | (with_reducible refine Ix.ex hes hi0 (hk (by assumption)) ?_; intro op' m' vk' vn' vs' ar' es' hx hes')
        | (with_reducible refine isCC hcc ?_; obtain ⟨g3, L3, n3, C3, hc3, hC3, hn3, hcall⟩ := hpc _ _ _ _ _ _ _ hx hes'; refine frameK (H1 := colH g3 n3 C3) hcc [0, 1, 2] hcall rfl rfl rfl rfl rfl rfl rfl ?_)
        | (with_reducible refine Asm.mk2 ?_ ?_)
        | ((fail_if_success (with_reducible first | refine hQ _ _ ?_ | refine Side.mk ?_ | refine isCP hcp ?_ | refine isCC hcc ?_ | refine isLP hlp ?_ | refine Ix.mk ?_ | refine SIx.mk ?_ | refine SEx.mk ?_ | refine EIx.mk ?_ | refine RIx.mk ?_ | show False | refine hR ?_ _ ?_ ?_ ?_ ?_ ?_ | refine hR2 ?_ _ ?_ ?_ ?_ ?_ ?_)); cbv))
      all_goals first
        | (have hlt := hki (by assumption)
           have hwi : IntKind.i64.wrap (i + 1) = i + 1 := wrap_in (by omega)
           rw [hwi] at hz
           have hl3 := colsG_len (.mk op' m' ⟨vk', vn', vs'⟩ ar') (g2, L2)
           rw [hc3] at hl3
           have hl3' : L3.length ≤ L2.length + (Ex.mk op' m' ⟨vk', vn', vs'⟩ ar').sz := hl3
           rw [hdr _ hx, szL] at hsz2
           rw [hdr _ hx, colsGL, hc3] at hcg2
           exact hR (i + 1, g3, L3, n3, C3) _ ⟨⟨by show 0 ≤ i + 1; omega, by show i + 1 ≤ zl; omega⟩, hC3, hn3, by show L3.length + szL (ar.drop (i + 1).toNat) ≤ 1000000; omega, hcg2⟩ (by show (zl - (i + 1)).toNat < (zl - i).toNat; omega) ⟨hz ▸ rfl, trivial⟩ ⟨rfl, rfl, rfl, rfl, trivial⟩ rfl)
        | (have hge : ar.length ≤ i.toNat := by
             have : decide (i < zl) = false := by assumption
             simp only [decide_eq_false_iff_not] at this
             omega
           rw [List.drop_eq_nil_of_le hge, colsGL] at hcg2
           simp only [Prod.mk.injEq] at hcg2
           obtain ⟨q1, q2⟩ := hcg2
           refine hQ _ _ ⟨rfl, ?_⟩
           rw [← hn', ← hC', ← q1, ← q2, hC2, hn2]
           rfl)
    · skip
      rename_i pz hpz pb hpb pu hpu pv hpv pd hpd pe hpe p3 hp3 pg hpg pn hpn pC hpC
      have hie : i.toNat = at0 := by first | exact hposA (by assumption) (by assumption) | exact hposB (by assumption) (by assumption) (by assumption)
      have hnot : ¬ L[at0]? = some m := by first | exact hnotA (by assumption) (by assumption) | exact hnotB (by assumption) (by assumption) (by assumption) (by assumption)
      rw [insG, hat, if_neg hnot] at hq
      have hb0 : pb = at0 := by
        have : Int.toNat 0 = 0 := rfl
        omega
      have hu0 : pu = at0 := by omega
      have hv0 : pv = n - at0 := by
        have : (Int.ofNat n).toNat = n := rfl
        omega
      have hcg : colsGL (ar.drop 0) (pg, L.take at0 ++ m :: L.drop at0) = (g', L') := by rw [List.drop_zero, ← hpg]; exact hq
      have hC1 : (L.take at0 ++ m :: L.drop at0).map i64c = pC := by
        rw [← hpC, ← hpe, ← hpd, hb0, hu0, hv0, ← hC, List.map_append, List.map_take, List.map_cons, List.map_drop, List.take_of_length_le (l := List.drop at0 (L.map i64c)) (by rw [List.length_drop, List.length_map]; omega)]
        rfl
      have hn1 : pC.length = pn := by rw [← hpC, ← hpn, List.length_append, List.length_take, Nat.min_eq_left (by omega)]
      have hsz1 : (L.take at0 ++ m :: L.drop at0).length + szL (ar.drop 0) ≤ 1000000 := by
        rw [List.drop_zero, List.length_append, List.length_take, List.length_cons, List.length_drop]; omega
      clear hpz hpb hpu hpv hpd hpe hp3 hpg hpn hpC hidx hoff hin hin2 hidx2 hok hokt hokd hokm hA hB hC3 hD hE hposA hposB hnotA hnotB hget hile hR
      all_goals (try simp only [nc] at hz)
      all_goals (try simp only [nc'] at hz)
      have hzl : z.toNat = ar.length ∧ 0 ≤ z := by omega
      obtain ⟨hzl, hzl0⟩ := hzl
      clear hz
      generalize z = zl at *
      refine loopT (ι := Int × Nat × List Int × Nat × List (List PV)) mixed tt_ok hcp hcc hlp [1, 2, 50, 51] (fun p => [(52, .p (.int .i64 p.1))]) (fun p => [.cells [.vec 2 p.2.1 1 0 p.2.2.2.1], .cells [.fn 183 [.ref 0 0, .ref 1 0]], .vec p.2.1 p.2.2.2.2 1, .cells [.p (.int .i64 op), .p (.int .i64 m), .p (.int .i64 vk), .p (.int .i64 vn), .p (.str vs), .p (.sl es)], .spare p3 1])
        (fun p => (0 ≤ p.1 ∧ p.1 ≤ zl) ∧ p.2.2.1.map i64c = p.2.2.2.2 ∧ p.2.2.2.2.length = p.2.2.2.1 ∧ p.2.2.1.length + szL (ar.drop p.1.toNat) ≤ 1000000 ∧ colsGL (ar.drop p.1.toNat) (p.2.1, p.2.2.1) = (g', L')) (fun p => (zl - p.1).toNat) (0, _, _, _, _) 5 (fun _ => rfl) ⟨⟨by show (0 : Int) ≤ 0; omega, by show (0 : Int) ≤ zl; omega⟩, hC1, hn1, hsz1, hcg⟩ ⟨rfl, trivial⟩ rfl ?_
      rintro R ⟨i, g2, L2, n2, C2⟩ ⟨⟨hi0, hi1⟩, hC2, hn2, hsz2, hcg2⟩ hR
      replace hi0 : 0 ≤ i := hi0
      replace hi1 : i ≤ zl := hi1
      replace hC2 : L2.map i64c = C2 := hC2
      replace hn2 : C2.length = n2 := hn2
      replace hsz2 : L2.length + szL (ar.drop i.toNat) ≤ 1000000 := hsz2
      replace hcg2 : colsGL (ar.drop i.toNat) (g2, L2) = (g', L') := hcg2
      have hk : decide (i < zl) = true → i < ar.length := by simp only [decide_eq_true_eq]; omega
      have hki : decide (i < zl) = true → i + 1 ≤ zl ∧ i < 9223372036854775806 := by simp only [decide_eq_true_eq]; omega
      have hdr : ∀ x, ar[i.toNat]? = some x → ar.drop i.toNat = x :: ar.drop (i + 1).toNat := by
        intro x hx
        rw [List.drop_eq_getElem_cons (List.getElem?_eq_some_iff.1 hx).1, (List.getElem?_eq_some_iff.1 hx).2, show (i + 1).toNat = i.toNat + 1 by omega]
      have hpc : ∀ (op' m' vk' vn' : Int) (vs' : ByteArray) (ar' : List Ex) (es' : List (List PV)), ar[i.toNat]? = some (.mk op' m' ⟨vk', vn', vs'⟩ ar') → ar'.map Ex.cells = es' → ∃ g3 L3 n3 C3, colsG (.mk op' m' ⟨vk', vn', vs'⟩ ar') (g2, L2) = (g3, L3) ∧ L3.map i64c = C3 ∧ C3.length = n3 ∧
          ACall Try.prog 183 [.p (.agg [.int .i64 op', .int .i64 m', .int .i64 vk', .int .i64 vn', .str vs', .sl es']), .ref 0 0, .ref 1 0] (colH g2 n2 C2) fun r H' => r = .tup [] ∧ takeX H' 3 = colH g3 n3 C3 := by
        intro op' m' vk' vn' vs' ar' es' hx he
        have hb : L2.length + (Ex.mk op' m' ⟨vk', vn', vs'⟩ ar').sz ≤ 1000000 := by
          rw [hdr _ hx, szL] at hsz2; omega
        exact IH _ (List.mem_of_getElem? hx) _ g2 L2 n2 C2 (by rw [cells_mk, he]) hC2 hn2 hb
      repeat' (first
        | (with_reducible refine Nm.mk ?_; intro z hz)
        | (with_reducible refine IfB.mk ?_ ?_ <;> (intro h; cases h))
        | (with_reducible refine Two.l ?_; refine Asm.mk ?_ ?_; focus (decide +kernel))
        | (with_reducible refine Two.r ?_)
        | (with_reducible refine Asm.mk ?_ ?_; focus (show (_ : Bool) = true; kernel_rfl))
        | (with_reducible refine Ix.ex hes hi0 (hk (by assumption)) ?_; intro op' m' vk' vn' vs' ar' es' hx hes')
        | (with_reducible refine isCC hcc ?_; obtain ⟨g3, L3, n3, C3, hc3, hC3, hn3, hcall⟩ := hpc _ _ _ _ _ _ _ hx hes'; refine frameK (H1 := colH g3 n3 C3) hcc [0, 1, 2] hcall rfl rfl rfl rfl rfl rfl rfl ?_)
        | (with_reducible refine Asm.mk2 ?_ ?_)
        | ((fail_if_success (with_reducible first | refine hQ _ _ ?_ | refine Side.mk ?_ | refine isCP hcp ?_ | refine isCC hcc ?_ | refine isLP hlp ?_ | refine Ix.mk ?_ | refine SIx.mk ?_ | refine SEx.mk ?_ | refine EIx.mk ?_ | refine RIx.mk ?_ | show False | refine hR ?_ _ ?_ ?_ ?_ ?_ ?_ | refine hR2 ?_ _ ?_ ?_ ?_ ?_ ?_)); cbv))
      all_goals first
        | (have hlt := hki (by assumption)
           have hwi : IntKind.i64.wrap (i + 1) = i + 1 := wrap_in (by omega)
           rw [hwi] at hz
           have hl3 := colsG_len (.mk op' m' ⟨vk', vn', vs'⟩ ar') (g2, L2)
           rw [hc3] at hl3
           have hl3' : L3.length ≤ L2.length + (Ex.mk op' m' ⟨vk', vn', vs'⟩ ar').sz := hl3
           rw [hdr _ hx, szL] at hsz2
           rw [hdr _ hx, colsGL, hc3] at hcg2
           exact hR (i + 1, g3, L3, n3, C3) _ ⟨⟨by show 0 ≤ i + 1; omega, by show i + 1 ≤ zl; omega⟩, hC3, hn3, by show L3.length + szL (ar.drop (i + 1).toNat) ≤ 1000000; omega, hcg2⟩ (by show (zl - (i + 1)).toNat < (zl - i).toNat; omega) ⟨hz ▸ rfl, trivial⟩ ⟨rfl, rfl, rfl, rfl, trivial⟩ rfl)
        | (have hge : ar.length ≤ i.toNat := by
             have : decide (i < zl) = false := by assumption
             simp only [decide_eq_false_iff_not] at this
             omega
           rw [List.drop_eq_nil_of_le hge, colsGL] at hcg2
           simp only [Prod.mk.injEq] at hcg2
           obtain ⟨q1, q2⟩ := hcg2
           refine hQ _ _ ⟨rfl, ?_⟩
           rw [← hn', ← hC', ← q1, ← q2, hC2, hn2]
           rfl)
    · have hye : L[at0]? = some m := hyes (by assumption) (by assumption) (by assumption) (by assumption)
      rw [insG, hat, if_pos hye] at hq
      have hcg : colsGL (ar.drop 0) (g, L) = (g', L') := hq
      have hC1 := hC
      have hn1 := hn
      have hsz1 : L.length + szL (ar.drop 0) ≤ 1000000 := by rw [List.drop_zero]; omega
      clear hidx hoff hin hin2 hidx2 hok hokt hokd hokm hA hB hC3 hD hE hposA hposB hnotA hnotB hget hile hR
      all_goals (try simp only [nc] at hz)
      all_goals (try simp only [nc'] at hz)
      have hzl : z.toNat = ar.length ∧ 0 ≤ z := by omega
      obtain ⟨hzl, hzl0⟩ := hzl
      clear hz
      generalize z = zl at *
      refine loopT (ι := Int × Nat × List Int × Nat × List (List PV)) mixed tt_ok hcp hcc hlp [1, 2, 50, 51] (fun p => [(52, .p (.int .i64 p.1))]) (fun p => [.cells [.vec 2 p.2.1 1 0 p.2.2.2.1], .cells [.fn 183 [.ref 0 0, .ref 1 0]], .vec p.2.1 p.2.2.2.2 1, .cells [.p (.int .i64 op), .p (.int .i64 m), .p (.int .i64 vk), .p (.int .i64 vn), .p (.str vs), .p (.sl es)]])
        (fun p => (0 ≤ p.1 ∧ p.1 ≤ zl) ∧ p.2.2.1.map i64c = p.2.2.2.2 ∧ p.2.2.2.2.length = p.2.2.2.1 ∧ p.2.2.1.length + szL (ar.drop p.1.toNat) ≤ 1000000 ∧ colsGL (ar.drop p.1.toNat) (p.2.1, p.2.2.1) = (g', L')) (fun p => (zl - p.1).toNat) (0, _, _, _, _) 4 (fun _ => rfl) ⟨⟨by show (0 : Int) ≤ 0; omega, by show (0 : Int) ≤ zl; omega⟩, hC1, hn1, hsz1, hcg⟩ ⟨rfl, trivial⟩ rfl ?_
      rintro R ⟨i, g2, L2, n2, C2⟩ ⟨⟨hi0, hi1⟩, hC2, hn2, hsz2, hcg2⟩ hR
      replace hi0 : 0 ≤ i := hi0
      replace hi1 : i ≤ zl := hi1
      replace hC2 : L2.map i64c = C2 := hC2
      replace hn2 : C2.length = n2 := hn2
      replace hsz2 : L2.length + szL (ar.drop i.toNat) ≤ 1000000 := hsz2
      replace hcg2 : colsGL (ar.drop i.toNat) (g2, L2) = (g', L') := hcg2
      have hk : decide (i < zl) = true → i < ar.length := by simp only [decide_eq_true_eq]; omega
      have hki : decide (i < zl) = true → i + 1 ≤ zl ∧ i < 9223372036854775806 := by simp only [decide_eq_true_eq]; omega
      have hdr : ∀ x, ar[i.toNat]? = some x → ar.drop i.toNat = x :: ar.drop (i + 1).toNat := by
        intro x hx
        rw [List.drop_eq_getElem_cons (List.getElem?_eq_some_iff.1 hx).1, (List.getElem?_eq_some_iff.1 hx).2, show (i + 1).toNat = i.toNat + 1 by omega]
      have hpc : ∀ (op' m' vk' vn' : Int) (vs' : ByteArray) (ar' : List Ex) (es' : List (List PV)), ar[i.toNat]? = some (.mk op' m' ⟨vk', vn', vs'⟩ ar') → ar'.map Ex.cells = es' → ∃ g3 L3 n3 C3, colsG (.mk op' m' ⟨vk', vn', vs'⟩ ar') (g2, L2) = (g3, L3) ∧ L3.map i64c = C3 ∧ C3.length = n3 ∧
          ACall Try.prog 183 [.p (.agg [.int .i64 op', .int .i64 m', .int .i64 vk', .int .i64 vn', .str vs', .sl es']), .ref 0 0, .ref 1 0] (colH g2 n2 C2) fun r H' => r = .tup [] ∧ takeX H' 3 = colH g3 n3 C3 := by
        intro op' m' vk' vn' vs' ar' es' hx he
        have hb : L2.length + (Ex.mk op' m' ⟨vk', vn', vs'⟩ ar').sz ≤ 1000000 := by
          rw [hdr _ hx, szL] at hsz2; omega
        exact IH _ (List.mem_of_getElem? hx) _ g2 L2 n2 C2 (by rw [cells_mk, he]) hC2 hn2 hb
      repeat' (first
        | (with_reducible refine Nm.mk ?_; intro z hz)
        | (with_reducible refine IfB.mk ?_ ?_ <;> (intro h; cases h))
        | (with_reducible refine Two.l ?_; refine Asm.mk ?_ ?_; focus (decide +kernel))
        | (with_reducible refine Two.r ?_)
        | (with_reducible refine Asm.mk ?_ ?_; focus (show (_ : Bool) = true; kernel_rfl))
        | (with_reducible refine Ix.ex hes hi0 (hk (by assumption)) ?_; intro op' m' vk' vn' vs' ar' es' hx hes')
        | (with_reducible refine isCC hcc ?_; obtain ⟨g3, L3, n3, C3, hc3, hC3, hn3, hcall⟩ := hpc _ _ _ _ _ _ _ hx hes'; refine frameK (H1 := colH g3 n3 C3) hcc [0, 1, 2] hcall rfl rfl rfl rfl rfl rfl rfl ?_)
        | (with_reducible refine Asm.mk2 ?_ ?_)
        | ((fail_if_success (with_reducible first | refine hQ _ _ ?_ | refine Side.mk ?_ | refine isCP hcp ?_ | refine isCC hcc ?_ | refine isLP hlp ?_ | refine Ix.mk ?_ | refine SIx.mk ?_ | refine SEx.mk ?_ | refine EIx.mk ?_ | refine RIx.mk ?_ | show False | refine hR ?_ _ ?_ ?_ ?_ ?_ ?_ | refine hR2 ?_ _ ?_ ?_ ?_ ?_ ?_)); cbv))
      all_goals first
        | (have hlt := hki (by assumption)
           have hwi : IntKind.i64.wrap (i + 1) = i + 1 := wrap_in (by omega)
           rw [hwi] at hz
           have hl3 := colsG_len (.mk op' m' ⟨vk', vn', vs'⟩ ar') (g2, L2)
           rw [hc3] at hl3
           have hl3' : L3.length ≤ L2.length + (Ex.mk op' m' ⟨vk', vn', vs'⟩ ar').sz := hl3
           rw [hdr _ hx, szL] at hsz2
           rw [hdr _ hx, colsGL, hc3] at hcg2
           exact hR (i + 1, g3, L3, n3, C3) _ ⟨⟨by show 0 ≤ i + 1; omega, by show i + 1 ≤ zl; omega⟩, hC3, hn3, by show L3.length + szL (ar.drop (i + 1).toNat) ≤ 1000000; omega, hcg2⟩ (by show (zl - (i + 1)).toNat < (zl - i).toNat; omega) ⟨hz ▸ rfl, trivial⟩ ⟨rfl, rfl, rfl, rfl, trivial⟩ rfl)
        | (have hge : ar.length ≤ i.toNat := by
             have : decide (i < zl) = false := by assumption
             simp only [decide_eq_false_iff_not] at this
             omega
           rw [List.drop_eq_nil_of_le hge, colsGL] at hcg2
           simp only [Prod.mk.injEq] at hcg2
           obtain ⟨q1, q2⟩ := hcg2
           refine hQ _ _ ⟨rfl, ?_⟩
           rw [← hn', ← hC', ← q1, ← q2, hC2, hn2]
           rfl)
    · skip
      rename_i pz hpz pb hpb pu hpu pv hpv pd hpd pe hpe p3 hp3 pg hpg pn hpn pC hpC
      have hie : i.toNat = at0 := by first | exact hposA (by assumption) (by assumption) | exact hposB (by assumption) (by assumption) (by assumption)
      have hnot : ¬ L[at0]? = some m := by first | exact hnotA (by assumption) (by assumption) | exact hnotB (by assumption) (by assumption) (by assumption) (by assumption)
      rw [insG, hat, if_neg hnot] at hq
      have hb0 : pb = at0 := by
        have : Int.toNat 0 = 0 := rfl
        omega
      have hu0 : pu = at0 := by omega
      have hv0 : pv = n - at0 := by
        have : (Int.ofNat n).toNat = n := rfl
        omega
      have hcg : colsGL (ar.drop 0) (pg, L.take at0 ++ m :: L.drop at0) = (g', L') := by rw [List.drop_zero, ← hpg]; exact hq
      have hC1 : (L.take at0 ++ m :: L.drop at0).map i64c = pC := by
        rw [← hpC, ← hpe, ← hpd, hb0, hu0, hv0, ← hC, List.map_append, List.map_take, List.map_cons, List.map_drop, List.take_of_length_le (l := List.drop at0 (L.map i64c)) (by rw [List.length_drop, List.length_map]; omega)]
        rfl
      have hn1 : pC.length = pn := by rw [← hpC, ← hpn, List.length_append, List.length_take, Nat.min_eq_left (by omega)]
      have hsz1 : (L.take at0 ++ m :: L.drop at0).length + szL (ar.drop 0) ≤ 1000000 := by
        rw [List.drop_zero, List.length_append, List.length_take, List.length_cons, List.length_drop]; omega
      clear hpz hpb hpu hpv hpd hpe hp3 hpg hpn hpC hidx hoff hin hin2 hidx2 hok hokt hokd hokm hA hB hC3 hD hE hposA hposB hnotA hnotB hget hile hR
      all_goals (try simp only [nc] at hz)
      all_goals (try simp only [nc'] at hz)
      have hzl : z.toNat = ar.length ∧ 0 ≤ z := by omega
      obtain ⟨hzl, hzl0⟩ := hzl
      clear hz
      generalize z = zl at *
      refine loopT (ι := Int × Nat × List Int × Nat × List (List PV)) mixed tt_ok hcp hcc hlp [1, 2, 50, 51] (fun p => [(52, .p (.int .i64 p.1))]) (fun p => [.cells [.vec 2 p.2.1 1 0 p.2.2.2.1], .cells [.fn 183 [.ref 0 0, .ref 1 0]], .vec p.2.1 p.2.2.2.2 1, .cells [.p (.int .i64 op), .p (.int .i64 m), .p (.int .i64 vk), .p (.int .i64 vn), .p (.str vs), .p (.sl es)], .spare p3 1])
        (fun p => (0 ≤ p.1 ∧ p.1 ≤ zl) ∧ p.2.2.1.map i64c = p.2.2.2.2 ∧ p.2.2.2.2.length = p.2.2.2.1 ∧ p.2.2.1.length + szL (ar.drop p.1.toNat) ≤ 1000000 ∧ colsGL (ar.drop p.1.toNat) (p.2.1, p.2.2.1) = (g', L')) (fun p => (zl - p.1).toNat) (0, _, _, _, _) 5 (fun _ => rfl) ⟨⟨by show (0 : Int) ≤ 0; omega, by show (0 : Int) ≤ zl; omega⟩, hC1, hn1, hsz1, hcg⟩ ⟨rfl, trivial⟩ rfl ?_
      rintro R ⟨i, g2, L2, n2, C2⟩ ⟨⟨hi0, hi1⟩, hC2, hn2, hsz2, hcg2⟩ hR
      replace hi0 : 0 ≤ i := hi0
      replace hi1 : i ≤ zl := hi1
      replace hC2 : L2.map i64c = C2 := hC2
      replace hn2 : C2.length = n2 := hn2
      replace hsz2 : L2.length + szL (ar.drop i.toNat) ≤ 1000000 := hsz2
      replace hcg2 : colsGL (ar.drop i.toNat) (g2, L2) = (g', L') := hcg2
      have hk : decide (i < zl) = true → i < ar.length := by simp only [decide_eq_true_eq]; omega
      have hki : decide (i < zl) = true → i + 1 ≤ zl ∧ i < 9223372036854775806 := by simp only [decide_eq_true_eq]; omega
      have hdr : ∀ x, ar[i.toNat]? = some x → ar.drop i.toNat = x :: ar.drop (i + 1).toNat := by
        intro x hx
        rw [List.drop_eq_getElem_cons (List.getElem?_eq_some_iff.1 hx).1, (List.getElem?_eq_some_iff.1 hx).2, show (i + 1).toNat = i.toNat + 1 by omega]
      have hpc : ∀ (op' m' vk' vn' : Int) (vs' : ByteArray) (ar' : List Ex) (es' : List (List PV)), ar[i.toNat]? = some (.mk op' m' ⟨vk', vn', vs'⟩ ar') → ar'.map Ex.cells = es' → ∃ g3 L3 n3 C3, colsG (.mk op' m' ⟨vk', vn', vs'⟩ ar') (g2, L2) = (g3, L3) ∧ L3.map i64c = C3 ∧ C3.length = n3 ∧
          ACall Try.prog 183 [.p (.agg [.int .i64 op', .int .i64 m', .int .i64 vk', .int .i64 vn', .str vs', .sl es']), .ref 0 0, .ref 1 0] (colH g2 n2 C2) fun r H' => r = .tup [] ∧ takeX H' 3 = colH g3 n3 C3 := by
        intro op' m' vk' vn' vs' ar' es' hx he
        have hb : L2.length + (Ex.mk op' m' ⟨vk', vn', vs'⟩ ar').sz ≤ 1000000 := by
          rw [hdr _ hx, szL] at hsz2; omega
        exact IH _ (List.mem_of_getElem? hx) _ g2 L2 n2 C2 (by rw [cells_mk, he]) hC2 hn2 hb
      repeat' (first
        | (with_reducible refine Nm.mk ?_; intro z hz)
        | (with_reducible refine IfB.mk ?_ ?_ <;> (intro h; cases h))
        | (with_reducible refine Two.l ?_; refine Asm.mk ?_ ?_; focus (decide +kernel))
        | (with_reducible refine Two.r ?_)
        | (with_reducible refine Asm.mk ?_ ?_; focus (show (_ : Bool) = true; kernel_rfl))
        | (with_reducible refine Ix.ex hes hi0 (hk (by assumption)) ?_; intro op' m' vk' vn' vs' ar' es' hx hes')
        | (with_reducible refine isCC hcc ?_; obtain ⟨g3, L3, n3, C3, hc3, hC3, hn3, hcall⟩ := hpc _ _ _ _ _ _ _ hx hes'; refine frameK (H1 := colH g3 n3 C3) hcc [0, 1, 2] hcall rfl rfl rfl rfl rfl rfl rfl ?_)
        | (with_reducible refine Asm.mk2 ?_ ?_)
        | ((fail_if_success (with_reducible first | refine hQ _ _ ?_ | refine Side.mk ?_ | refine isCP hcp ?_ | refine isCC hcc ?_ | refine isLP hlp ?_ | refine Ix.mk ?_ | refine SIx.mk ?_ | refine SEx.mk ?_ | refine EIx.mk ?_ | refine RIx.mk ?_ | show False | refine hR ?_ _ ?_ ?_ ?_ ?_ ?_ | refine hR2 ?_ _ ?_ ?_ ?_ ?_ ?_)); cbv))
      all_goals first
        | (have hlt := hki (by assumption)
           have hwi : IntKind.i64.wrap (i + 1) = i + 1 := wrap_in (by omega)
           rw [hwi] at hz
           have hl3 := colsG_len (.mk op' m' ⟨vk', vn', vs'⟩ ar') (g2, L2)
           rw [hc3] at hl3
           have hl3' : L3.length ≤ L2.length + (Ex.mk op' m' ⟨vk', vn', vs'⟩ ar').sz := hl3
           rw [hdr _ hx, szL] at hsz2
           rw [hdr _ hx, colsGL, hc3] at hcg2
           exact hR (i + 1, g3, L3, n3, C3) _ ⟨⟨by show 0 ≤ i + 1; omega, by show i + 1 ≤ zl; omega⟩, hC3, hn3, by show L3.length + szL (ar.drop (i + 1).toNat) ≤ 1000000; omega, hcg2⟩ (by show (zl - (i + 1)).toNat < (zl - i).toNat; omega) ⟨hz ▸ rfl, trivial⟩ ⟨rfl, rfl, rfl, rfl, trivial⟩ rfl)
        | (have hge : ar.length ≤ i.toNat := by
             have : decide (i < zl) = false := by assumption
             simp only [decide_eq_false_iff_not] at this
             omega
           rw [List.drop_eq_nil_of_le hge, colsGL] at hcg2
           simp only [Prod.mk.injEq] at hcg2
           obtain ⟨q1, q2⟩ := hcg2
           refine hQ _ _ ⟨rfl, ?_⟩
           rw [← hn', ← hC', ← q1, ← q2, hC2, hn2]
           rfl)
    · exact (hno (by assumption) (by assumption) (by assumption) (by assumption)).elim
    · exact (hno (by assumption) (by assumption) (by assumption) (by assumption)).elim
  · have hop : ¬ op = 1 := by simpa using (show decide (op = 1) = false by assumption)
    rw [if_neg hop] at hq
    have hcg := hq
    have hC1 := hC
    have hn1 := hn
    have hsz1 : L.length + szL (ar.drop 0) ≤ 1000000 := by rw [List.drop_zero]; omega
    all_goals (try simp only [nc] at hz)
    all_goals (try simp only [nc'] at hz)
    have hzl : z.toNat = ar.length ∧ 0 ≤ z := by omega
    obtain ⟨hzl, hzl0⟩ := hzl
    clear hz
    generalize z = zl at *
    refine loopT (ι := Int × Nat × List Int × Nat × List (List PV)) mixed tt_ok hcp hcc hlp [1, 2, 50, 51] (fun p => [(52, .p (.int .i64 p.1))]) (fun p => [.cells [.vec 2 p.2.1 1 0 p.2.2.2.1], .cells [.fn 183 [.ref 0 0, .ref 1 0]], .vec p.2.1 p.2.2.2.2 1, .cells [.p (.int .i64 op), .p (.int .i64 m), .p (.int .i64 vk), .p (.int .i64 vn), .p (.str vs), .p (.sl es)]])
      (fun p => (0 ≤ p.1 ∧ p.1 ≤ zl) ∧ p.2.2.1.map i64c = p.2.2.2.2 ∧ p.2.2.2.2.length = p.2.2.2.1 ∧ p.2.2.1.length + szL (ar.drop p.1.toNat) ≤ 1000000 ∧ colsGL (ar.drop p.1.toNat) (p.2.1, p.2.2.1) = (g', L')) (fun p => (zl - p.1).toNat) (0, _, _, _, _) 4 (fun _ => rfl) ⟨⟨by show (0 : Int) ≤ 0; omega, by show (0 : Int) ≤ zl; omega⟩, hC1, hn1, hsz1, hcg⟩ ⟨rfl, trivial⟩ rfl ?_
    rintro R ⟨i, g2, L2, n2, C2⟩ ⟨⟨hi0, hi1⟩, hC2, hn2, hsz2, hcg2⟩ hR
    replace hi0 : 0 ≤ i := hi0
    replace hi1 : i ≤ zl := hi1
    replace hC2 : L2.map i64c = C2 := hC2
    replace hn2 : C2.length = n2 := hn2
    replace hsz2 : L2.length + szL (ar.drop i.toNat) ≤ 1000000 := hsz2
    replace hcg2 : colsGL (ar.drop i.toNat) (g2, L2) = (g', L') := hcg2
    have hk : decide (i < zl) = true → i < ar.length := by simp only [decide_eq_true_eq]; omega
    have hki : decide (i < zl) = true → i + 1 ≤ zl ∧ i < 9223372036854775806 := by simp only [decide_eq_true_eq]; omega
    have hdr : ∀ x, ar[i.toNat]? = some x → ar.drop i.toNat = x :: ar.drop (i + 1).toNat := by
      intro x hx
      rw [List.drop_eq_getElem_cons (List.getElem?_eq_some_iff.1 hx).1, (List.getElem?_eq_some_iff.1 hx).2, show (i + 1).toNat = i.toNat + 1 by omega]
    have hpc : ∀ (op' m' vk' vn' : Int) (vs' : ByteArray) (ar' : List Ex) (es' : List (List PV)), ar[i.toNat]? = some (.mk op' m' ⟨vk', vn', vs'⟩ ar') → ar'.map Ex.cells = es' → ∃ g3 L3 n3 C3, colsG (.mk op' m' ⟨vk', vn', vs'⟩ ar') (g2, L2) = (g3, L3) ∧ L3.map i64c = C3 ∧ C3.length = n3 ∧
        ACall Try.prog 183 [.p (.agg [.int .i64 op', .int .i64 m', .int .i64 vk', .int .i64 vn', .str vs', .sl es']), .ref 0 0, .ref 1 0] (colH g2 n2 C2) fun r H' => r = .tup [] ∧ takeX H' 3 = colH g3 n3 C3 := by
      intro op' m' vk' vn' vs' ar' es' hx he
      have hb : L2.length + (Ex.mk op' m' ⟨vk', vn', vs'⟩ ar').sz ≤ 1000000 := by
        rw [hdr _ hx, szL] at hsz2; omega
      exact IH _ (List.mem_of_getElem? hx) _ g2 L2 n2 C2 (by rw [cells_mk, he]) hC2 hn2 hb
    repeat' (first
      | (with_reducible refine Nm.mk ?_; intro z hz)
      | (with_reducible refine IfB.mk ?_ ?_ <;> (intro h; cases h))
      | (with_reducible refine Two.l ?_; refine Asm.mk ?_ ?_; focus (decide +kernel))
      | (with_reducible refine Two.r ?_)
      | (with_reducible refine Asm.mk ?_ ?_; focus (show (_ : Bool) = true; kernel_rfl))
      | (with_reducible refine Ix.ex hes hi0 (hk (by assumption)) ?_; intro op' m' vk' vn' vs' ar' es' hx hes')
      | (with_reducible refine isCC hcc ?_; obtain ⟨g3, L3, n3, C3, hc3, hC3, hn3, hcall⟩ := hpc _ _ _ _ _ _ _ hx hes'; refine frameK (H1 := colH g3 n3 C3) hcc [0, 1, 2] hcall rfl rfl rfl rfl rfl rfl rfl ?_)
      | (with_reducible refine Asm.mk2 ?_ ?_)
      | ((fail_if_success (with_reducible first | refine hQ _ _ ?_ | refine Side.mk ?_ | refine isCP hcp ?_ | refine isCC hcc ?_ | refine isLP hlp ?_ | refine Ix.mk ?_ | refine SIx.mk ?_ | refine SEx.mk ?_ | refine EIx.mk ?_ | refine RIx.mk ?_ | show False | refine hR ?_ _ ?_ ?_ ?_ ?_ ?_ | refine hR2 ?_ _ ?_ ?_ ?_ ?_ ?_)); cbv))
    all_goals first
      | (have hlt := hki (by assumption)
         have hwi : IntKind.i64.wrap (i + 1) = i + 1 := wrap_in (by omega)
         rw [hwi] at hz
         have hl3 := colsG_len (.mk op' m' ⟨vk', vn', vs'⟩ ar') (g2, L2)
         rw [hc3] at hl3
         have hl3' : L3.length ≤ L2.length + (Ex.mk op' m' ⟨vk', vn', vs'⟩ ar').sz := hl3
         rw [hdr _ hx, szL] at hsz2
         rw [hdr _ hx, colsGL, hc3] at hcg2
         exact hR (i + 1, g3, L3, n3, C3) _ ⟨⟨by show 0 ≤ i + 1; omega, by show i + 1 ≤ zl; omega⟩, hC3, hn3, by show L3.length + szL (ar.drop (i + 1).toNat) ≤ 1000000; omega, hcg2⟩ (by show (zl - (i + 1)).toNat < (zl - i).toNat; omega) ⟨hz ▸ rfl, trivial⟩ ⟨rfl, rfl, rfl, rfl, trivial⟩ rfl)
      | (have hge : ar.length ≤ i.toNat := by
           have : decide (i < zl) = false := by assumption
           simp only [decide_eq_false_iff_not] at this
           omega
         rw [List.drop_eq_nil_of_le hge, colsGL] at hcg2
         simp only [Prod.mk.injEq] at hcg2
         obtain ⟨q1, q2⟩ := hcg2
         refine hQ _ _ ⟨rfl, ?_⟩
         rw [← hn', ← hC', ← q1, ← q2, hC2, hn2]
         rfl)
end Go.Proofs.Ytnhmnfokbinplaa

namespace Go.Proofs.Ytnhmnfokbinplaa
open Go Go.RowKit
set_option maxRecDepth 100000
set_option linter.unusedSimpArgs false
set_option linter.unusedVariables false

theorem col_all : ∀ (m : Nat) (e : Ex), e.sz ≤ m → e.wide → ColC e
  | 0, .mk op m v ar, h, _ => by simp [Ex.sz] at h
  | k + 1, .mk op m ⟨vk, vn, vs⟩ ar, h, hw => by
    intro cells g L n C he hC hn hsz
    rw [cells_mk] at he
    subst he
    have hwi : wideN ar.length ∧ wideL ar := by rw [Ex.wide] at hw; exact hw
    have hwn : wideN ar.length := hwi.1
    unfold wideN at hwn
    refine ⟨_, _, _, _, rfl, rfl, rfl, col_c op m vk vn vs ar _ rfl (by omega) (fun x hx => col_all k x ?_ (wide_mem hwi.2 hx)) g L n C hC hn (by rw [Ex.sz] at hsz; exact hsz) _ _ _ _ rfl rfl rfl⟩
    have := sz_mem hx
    simp only [Ex.sz] at h; omega
mutual
theorem walk_count : ∀ (e : Ex) (d k h : Int), (walkE e d k h).1 = true → (walkE e d k h).2.1 = k + e.sz
  | .mk op m v ar, d, k, h, hw => by
    rw [walkE] at hw ⊢
    split at hw
    · cases hw
    · rename_i hb
      rw [if_neg hb, walkL_count ar _ _ _ hw, Ex.sz]
      omega
theorem walkL_count : ∀ (l : List Ex) (d k h : Int), (walkL l d k h).1 = true → (walkL l d k h).2.1 = k + szL l
  | [], d, k, h, _ => by simp [walkL, szL]
  | a :: r, d, k, h, hw => by
    have he := walk_count a d k h
    rw [walkL] at hw ⊢
    rcases hx : walkE a d k h with ⟨b, k', h'⟩
    rw [hx] at hw he
    cases b with
    | false => cases hw
    | true =>
      have he2 : k' = k + a.sz := he rfl
      dsimp only at hw ⊢
      rw [walkL_count r d k' h' hw, szL, he2]
      omega
end
theorem built_szK {e : Ex} (hb : builtM e = true) : e.sz ≤ 400 := by
  have hb2 : (sizeM e).1 ≤ 400 := of_decide_eq_true hb
  cases hw : (walkE e 1 0 0).1 with
  | true =>
    rw [sizeM, if_pos hw] at hb2
    have := walk_count e 1 0 0 hw
    have hb3 : (walkE e 1 0 0).2.1 ≤ 400 := hb2
    omega
  | false =>
    rw [sizeM, if_neg (by rw [hw]; decide)] at hb2
    exact absurd hb2 (by decide)
def colsKM (e : Ex) : List Int := if builtM e = true then colsE e [] else []
theorem rcolumns_c (op n vk vn : Int) (vs : ByteArray) (ar : List Ex) (es : List (List PV)) (hes : ar.map Ex.cells = es) (hw : (Ex.mk op n ⟨vk, vn, vs⟩ ar).wide) :
    PCall Try.prog 139 [.agg [.int .i64 op, .int .i64 n, .int .i64 vk, .int .i64 vn, .str vs, .sl es]] fun r => r = [.sl ((colsKM (.mk op n ⟨vk, vn, vs⟩ ar)).map i64c)] := by
  have hbc := rbuilt_c op n vk vn vs ar es hes hw
  obtain ⟨bt, hbt⟩ : ∃ b, builtM (.mk op n ⟨vk, vn, vs⟩ ar) = b := ⟨_, rfl⟩
  obtain ⟨g', L', n', C', hc, hC', hn', hcall⟩ : ∃ g' L' n' C', colsG (.mk op n ⟨vk, vn, vs⟩ ar) (0, []) = (g', L') ∧ L'.map i64c = C' ∧ C'.length = n' ∧ (bt = true → ACall Try.prog 183 [.p (.agg [.int .i64 op, .int .i64 n, .int .i64 vk, .int .i64 vn, .str vs, .sl es]), .ref 0 0, .ref 1 0] (colH 0 0 []) fun r H' => r = .tup [] ∧ takeX H' 3 = colH g' n' C') := by
    cases hb : bt with
    | false => exact ⟨_, _, _, _, rfl, rfl, rfl, fun h => by cases h⟩
    | true =>
      rw [hb] at hbt
      obtain ⟨g', L', n', C', h1, h2, h3, h4⟩ := col_all _ (.mk op n ⟨vk, vn, vs⟩ ar) (Nat.le_refl _) hw _ 0 [] 0 [] (by rw [cells_mk, hes]) rfl rfl (by have := built_szK hbt; simp; omega)
      exact ⟨g', L', n', C', h1, h2, h3, fun _ => h4⟩
  have hL' : colsE (.mk op n ⟨vk, vn, vs⟩ ar) [] = L' := by
    have := colsG_2 (.mk op n ⟨vk, vn, vs⟩ ar) (0, [])
    rw [hc] at this
    exact this.symm
  rw [colsKM, hbt, hL']
  rw [hbt] at hbc
  have hbn : ∀ {z : Bool}, bt = z → (!z) = false → bt = true := by rintro z rfl h; simpa using h
  have hbf : ∀ {z : Bool}, bt = z → (!z) = true → bt = false := by rintro z rfl h; simpa using h
  refine PCall.x (nt := 13) (res := [.tmp 2]) mixed tt_ok [] Try.func139 rfl rfl rfl c139 (Nat.le_of_ble_eq_true rfl) ?_
  intro cp cc lp Q' hcp hcc hlp hQ
  repeat' (first
    | (with_reducible refine Nm.mk ?_; intro z hz)
    | (with_reducible refine IfB.mk ?_ ?_ <;> (intro h; cases h))
    | (with_reducible refine Two.l ?_; refine Asm.mk ?_ ?_; focus (decide +kernel))
    | (with_reducible refine Two.r ?_)
    | (with_reducible refine Asm.mk ?_ ?_; focus kernel_rfl)
    | (with_reducible refine isCP hcp ?_; first | (refine bP hcp (hbc) ?_; intro z hz))
    | (with_reducible refine isCC hcc ?_; first | (refine bA hcc (hbc) rfl ?_; intro z hz))
    | (with_reducible refine isCC hcc ?_; refine mintCC hcc 1 1 0 rfl rfl ?_; refine frameK (H1 := colH g' n' C') hcc [1, 2, 3] (hcall (hbn (by assumption) (by assumption))) rfl rfl rfl rfl rfl rfl rfl ?_)
    | (with_reducible refine Asm.mk2 ?_ ?_)
    | ((fail_if_success (with_reducible first | refine hQ _ ?_ | refine Side.mk ?_ | refine isCP hcp ?_ | refine isCC hcc ?_ | refine isLP hlp ?_ | refine Ix.mk ?_ | refine SIx.mk ?_ | refine SEx.mk ?_ | refine EIx.mk ?_ | refine RIx.mk ?_ | show False | refine hR ?_ _ ?_ ?_ ?_ ?_ ?_ | refine hR2 ?_ _ ?_ ?_ ?_ ?_ ?_)); cbv))
  · refine hQ _ ?_
    rw [hbf (by assumption) (by assumption), if_neg (by decide)]; rfl
  · exact ⟨⟨rfl, by omega⟩⟩
  · have hbt2 := hbn (by assumption) (by assumption)
    refine hQ _ ?_
    rw [if_pos hbt2, hC', ← hz, List.drop_zero, List.take_of_length_le (by omega)]
end Go.Proofs.Ytnhmnfokbinplaa

namespace Go.Proofs.Ytnhmnfokbinplaa
open Go Go.RowKit
set_option maxRecDepth 100000
set_option linter.unusedSimpArgs false
set_option linter.unusedVariables false

def fitK (w : Int) (l : List Int) : Bool := l.all fun k => decide (k = w) || decide (k = 0)
def pairK (a b : Int) : Bool := decide (a = b) || decide (a = 0) || decide (b = 0)
theorem Ix.giveK {es : Nat} {l : List (List PV)} {n : Int} {K : List PV → Prop} {e : List PV} (h0 : 0 ≤ n) (h : l[n.toNat]? = some e) (he : e.length = es) (hes : es ≠ 0) (k : K e) : Ix es l n K := ⟨⟨e, h0, h, he, hes, k⟩⟩
theorem pair_c (a b : Int) : PCall Try.prog 190 [.int .i64 a, .int .i64 b] fun r => r = [.int .i64 (mx a b), .bool (pairK a b)] := by
  refine PCall.x (nt := 20) (res := [.tmp 4, .tmp 5]) mixed tt_ok [] Try.func190 rfl rfl rfl c190 (Nat.le_of_ble_eq_true rfl) ?_
  intro cp cc lp Q' hcp hcc hlp hQ
  repeat' (first
    | (with_reducible refine Nm.mk ?_; intro z hz)
    | (with_reducible refine IfB.mk ?_ ?_ <;> (intro h; cases h))
    | (with_reducible refine Two.l ?_; refine Asm.mk ?_ ?_; focus (decide +kernel))
    | (with_reducible refine Two.r ?_)
    | (with_reducible refine Asm.mk ?_ ?_; focus (first | kernel_rfl | decide))
    | (with_reducible refine Asm.mk2 ?_ ?_)
    | ((fail_if_success (with_reducible first | refine hQ _ ?_ | refine Side.mk ?_ | refine isCP hcp ?_ | refine isCC hcc ?_ | refine isLP hlp ?_ | refine Ix.mk ?_ | refine SIx.mk ?_ | refine SEx.mk ?_ | refine EIx.mk ?_ | refine RIx.mk ?_ | show False | refine hR ?_ _ ?_ ?_ ?_ ?_ ?_ | refine hR2 ?_ _ ?_ ?_ ?_ ?_ ?_)); cbv))
  all_goals (refine hQ _ ?_; clear hQ hcp hcc hlp; simp_all [mx, pairK])
theorem kfit_c (w : Int) (l : List Int) (C : List (List PV)) (hC : l.map i64c = C) : PCall Try.prog 189 [.int .i64 w, .sl C] fun r => r = [.bool (fitK w l)] := by
  refine PCall.know c189 fun hkn => ?_
  have k1 : C.length ≤ maxLen := hkn (.sl C) (by simp)
  clear hkn
  rw [maxLen_eq] at k1
  have b1 : C.length = l.length := by rw [← hC]; simp
  obtain ⟨q, hq⟩ : ∃ q, fitK w l = q := ⟨_, rfl⟩
  rw [hq]
  refine PCall.x (nt := 21) (res := [.tmp 4]) mixed tt_ok [] Try.func189 rfl rfl rfl c189 (Nat.le_of_ble_eq_true rfl) ?_
  intro cp cc lp Q' hcp hcc hlp hQ
  repeat' (first
    | (with_reducible refine Nm.mk ?_; intro z hz)
    | (with_reducible refine IfB.mk ?_ ?_ <;> (intro h; cases h))
    | (with_reducible refine Two.l ?_; refine Asm.mk ?_ ?_; focus (decide +kernel))
    | (with_reducible refine Two.r ?_)
    | (with_reducible refine Asm.mk ?_ ?_; focus (first | kernel_rfl | decide))
    | (with_reducible refine Asm.mk2 ?_ ?_)
    | ((fail_if_success (with_reducible first | refine hQ _ ?_ | refine Side.mk ?_ | refine isCP hcp ?_ | refine isCC hcc ?_ | refine isLP hlp ?_ | refine Ix.mk ?_ | refine SIx.mk ?_ | refine SEx.mk ?_ | refine EIx.mk ?_ | refine RIx.mk ?_ | show False | refine hR ?_ _ ?_ ?_ ?_ ?_ ?_ | refine hR2 ?_ _ ?_ ?_ ?_ ?_ ?_)); cbv))
  simp only [nc] at hz
  simp only [nc'] at hz
  have hzl : z.toNat = l.length ∧ 0 ≤ z ∧ z ≤ 9223372036854775807 := by omega
  obtain ⟨hzl, hzl0, hzl1⟩ := hzl
  clear hz
  generalize z = zl at *
  refine loopK (ι := Int) mixed tt_ok hcp hcc hlp [0, 7, 8] (fun i => [(9, .p (.int .i64 i))]) (fun i => (0 ≤ i ∧ i ≤ zl) ∧ fitK w (l.drop i.toNat) = q) (fun i => (zl - i).toNat) 0 (fun _ => rfl) ⟨⟨by omega, by omega⟩, hq⟩ ⟨rfl, trivial⟩ ?_
  rintro R i ⟨⟨hi0, hi1⟩, hf⟩ hR
  have hk : decide (i < zl) = true → i < l.length := by simp only [decide_eq_true_eq]; omega
  have hki : decide (i < zl) = true → IntKind.i64.wrap (i + 1) = i + 1 ∧ i + 1 ≤ zl := by simp only [decide_eq_true_eq]; intro h; exact ⟨wrap_in (by omega), by omega⟩
  have hdr : ∀ x, l[i.toNat]? = some x → l.drop i.toNat = x :: l.drop (i + 1).toNat := by
    intro x hx
    rw [List.drop_eq_getElem_cons (List.getElem?_eq_some_iff.1 hx).1, (List.getElem?_eq_some_iff.1 hx).2, show (i + 1).toNat = i.toNat + 1 by omega]
  have hcons : ∀ x, l[i.toNat]? = some x → (decide (x = w) || decide (x = 0)) = true → fitK w (l.drop (i + 1).toNat) = q := by
    intro x hx h
    rw [← hf, hdr x hx, fitK, fitK, List.all_cons, h, Bool.true_and]
  have hcons0 : ∀ x, l[i.toNat]? = some x → (decide (x = w) || decide (x = 0)) = false → q = false := by
    intro x hx h
    rw [← hf, hdr x hx, fitK, List.all_cons, h, Bool.false_and]
  have c1 : ∀ {x : Int}, (!decide (x = 0)) = false → (decide (x = w) || decide (x = 0)) = true := by intro x h; cases h2 : decide (x = 0) <;> simp_all
  have c2 : ∀ {x : Int}, (!decide (x = w)) = false → (decide (x = w) || decide (x = 0)) = true := by intro x h; cases h2 : decide (x = w) <;> simp_all
  have c3 : ∀ {x : Int}, (!decide (x = w)) = true → (!decide (x = 0)) = true → (decide (x = w) || decide (x = 0)) = false := by intro x h h'; cases h2 : decide (x = w) <;> cases h3 : decide (x = 0) <;> simp_all
  repeat' (first
    | (with_reducible refine Nm.mk ?_; intro z hz)
    | (with_reducible refine IfB.mk ?_ ?_ <;> (intro h; cases h))
    | (with_reducible refine Two.l ?_; refine Asm.mk ?_ ?_; focus (decide +kernel))
    | (with_reducible refine Two.r ?_)
    | (with_reducible refine Asm.mk ?_ ?_; focus (show (_ : Bool) = true; kernel_rfl))
    | (with_reducible refine Ix.map hC i64c_len (by decide) hi0 (hk (by assumption)) ?_; intro x hx)
    | (with_reducible refine Asm.mk2 ?_ ?_)
    | ((fail_if_success (with_reducible first | refine hQ _ ?_ | refine Side.mk ?_ | refine isCP hcp ?_ | refine isCC hcc ?_ | refine isLP hlp ?_ | refine Ix.mk ?_ | refine SIx.mk ?_ | refine SEx.mk ?_ | refine EIx.mk ?_ | refine RIx.mk ?_ | show False | refine hR ?_ _ ?_ ?_ ?_ ?_ ?_ | refine hR2 ?_ _ ?_ ?_ ?_ ?_ ?_)); cbv))
  all_goals first
    | (refine hQ _ ?_
       rw [hcons0 x hx (c3 (by assumption) (by assumption))])
    | (refine hQ _ ?_
       have : decide (i < zl) = false := by assumption
       simp only [decide_eq_false_iff_not] at this
       rw [← hf, List.drop_eq_nil_of_le (by omega)]
       rfl)
    | (obtain ⟨e1, e2⟩ := hki (by assumption)
       rw [e1] at hz
       exact hR (i + 1) _ ⟨⟨by omega, e2⟩, hcons x hx (by first | exact c1 (by assumption) | exact c2 (by assumption))⟩ (by omega) ⟨hz ▸ rfl, trivial⟩ ⟨rfl, rfl, rfl, trivial⟩ rfl)

mutual
def kindE (K : List Int) : Ex → Int × Bool
  | .mk op m v ar => match kindL K ar with
    | none => (0, false)
    | some l =>
      if op = 1 then ((K[m.toNat]?).getD 0, true) else if op = 2 then ((clean v).k, true) else if op = 5 then (1, true) else if op = 6 then (1, fitK 2 l) else if op = 18 then (2, fitK 2 l)
      else if 12 ≤ op ∧ op ≤ 17 then (1, pairK ((l[0]?).getD 0) ((l[1]?).getD 0))
      else if op = 21 then (mx ((l[1]?).getD 0) ((l[2]?).getD 0), pairK ((l[1]?).getD 0) ((l[2]?).getD 0) && fitK 1 [(l[0]?).getD 0])
      else (1, fitK 1 l)
def kindL (K : List Int) : List Ex → Option (List Int)
  | [] => some []
  | e :: r => match kindE K e with
    | (k, true) => (kindL K r).map (k :: ·)
    | (_, false) => none
end
/- Where a kind may be asked for. -/
mutual
def Ex.fine (n : Nat) : Ex → Prop
  | .mk op m _ ar => arityE op = (ar.length : Int) ∧ (op = 1 → 0 ≤ m ∧ m < n) ∧ fineL n ar
def fineL (n : Nat) : List Ex → Prop
  | [] => True
  | e :: r => e.fine n ∧ fineL n r
end
theorem fine_mem {n : Nat} : ∀ {l : List Ex} {e : Ex}, fineL n l → e ∈ l → e.fine n
  | [], _, _, h => by simp at h
  | a :: r, e, hw, h => by
    rw [fineL] at hw
    rcases List.mem_cons.1 h with rfl | h
    · exact hw.1
    · exact fine_mem hw.2 h
def KindC (K : List Int) (e : Ex) : Prop := ∀ (cells : List PV) (C : List (List PV)), e.cells = cells → K.map i64c = C → ∃ k b, kindE K e = (k, b) ∧ PCall Try.prog 163 [.agg cells, .sl C] fun r => r = [.int .i64 k, .bool b]

set_option maxHeartbeats 4000000 in
theorem kind_c (K : List Int) (C : List (List PV)) (hC : K.map i64c = C) (op m vk vn : Int) (vs : ByteArray) (ar : List Ex) (es : List (List PV)) (hes : ar.map Ex.cells = es) (hal : (ar.length : Int) = arityE op) (hm : op = 1 → 0 ≤ m ∧ m < K.length) (IH : ∀ x, x ∈ ar → KindC K x) (k : Int) (b : Bool) (hq : kindE K (.mk op m ⟨vk, vn, vs⟩ ar) = (k, b)) :
    PCall Try.prog 163 [.agg [.int .i64 op, .int .i64 m, .int .i64 vk, .int .i64 vn, .str vs, .sl es], .sl C] fun r => r = [.int .i64 k, .bool b] := by
  have hel : es.length = ar.length := by rw [← hes]; simp
  have ha3 : arityE op ≤ 3 := by unfold arityE; (repeat' split) <;> omega
  have ha4 : ar.length ≤ 3 := by omega
  have hal2 : ar.length = (arityE op).toNat ∧ 0 ≤ arityE op := by omega
  clear hal
  rw [kindE] at hq
  refine PCall.x (nt := 121) (res := [.tmp 4, .tmp 5]) mixed tt_ok [] Try.func163 rfl rfl rfl c163 (Nat.le_of_ble_eq_true rfl) ?_
  intro cp cc lp Q' hcp hcc hlp hQ
  repeat' (first
    | (with_reducible refine Nm.mk ?_; intro z hz)
    | (with_reducible refine IfB.mk ?_ ?_ <;> (intro h; cases h))
    | (with_reducible refine Two.l ?_; refine Asm.mk ?_ ?_; focus (decide +kernel))
    | (with_reducible refine Two.r ?_)
    | (with_reducible refine Asm.mk ?_ ?_; focus (first | kernel_rfl | decide))
    | (with_reducible refine Asm.mk2 ?_ ?_)
    | ((fail_if_success (with_reducible first | refine hQ _ ?_ | refine Side.mk ?_ | refine isCP hcp ?_ | refine isCC hcc ?_ | refine isLP hlp ?_ | refine Ix.mk ?_ | refine SIx.mk ?_ | refine SEx.mk ?_ | refine EIx.mk ?_ | refine RIx.mk ?_ | show False | refine hR ?_ _ ?_ ?_ ?_ ?_ ?_ | refine hR2 ?_ _ ?_ ?_ ?_ ?_ ?_)); cbv))
  simp only [nc] at hz
  simp only [nc'] at hz
  have hzl : z.toNat = ar.length ∧ 0 ≤ z ∧ z ≤ 3 := by omega
  obtain ⟨hzl, hzl0, hzl1⟩ := hzl
  clear hz
  generalize z = zl at *
  refine mintT hlp 1 6 rfl ?_
  refine loopT (ι := Int × List Int × List (List PV) × Nat) mixed tt_ok hcp hcc hlp [1, 2, 18, 19] (fun p => [(6, .tok 1 p.2.2.1), (20, .p (.int .i64 p.1))]) (fun p => [.cells [.p (.int .i64 op), .p (.int .i64 m), .p (.int .i64 vk), .p (.int .i64 vn), .p (.str vs), .p (.sl es)], .spare p.2.2.2 1])
    (fun p => (0 ≤ p.1 ∧ p.1 ≤ zl) ∧ p.2.1.map i64c = p.2.2.1 ∧ p.2.2.1.length = p.2.2.2 ∧ p.2.1.length = p.1.toNat ∧ kindL K ar = (kindL K (ar.drop p.1.toNat)).map (p.2.1 ++ ·)) (fun p => (zl - p.1).toNat) (0, [], [], 0) 2 (fun _ => rfl) ⟨⟨by show (0 : Int) ≤ 0; omega, by show (0 : Int) ≤ zl; omega⟩, rfl, rfl, rfl, by show _ = (kindL K (ar.drop 0)).map _; rw [List.drop_zero]; cases kindL K ar <;> rfl⟩ ⟨rfl, rfl, trivial⟩ rfl ?_
  rintro R ⟨i, acc, C1, m1⟩ ⟨⟨hi0, hi1⟩, hC1, hm1, hacc, hkl⟩ hR
  replace hi0 : 0 ≤ i := hi0
  replace hi1 : i ≤ zl := hi1
  replace hC1 : acc.map i64c = C1 := hC1
  replace hm1 : C1.length = m1 := hm1
  replace hacc : acc.length = i.toNat := hacc
  replace hkl : kindL K ar = (kindL K (ar.drop i.toNat)).map (acc ++ ·) := hkl
  have hok : okEs 1 C1 = true := by rw [← hC1]; exact List.all_eq_true.2 fun e he => by obtain ⟨c, _, rfl⟩ := List.mem_map.1 he; rfl
  have hCl : C1.length ≤ 3 := by rw [← hC1, List.length_map, hacc]; omega
  have hk : decide (i < zl) = true → i < ar.length := by simp only [decide_eq_true_eq]; omega
  have hki : decide (i < zl) = true → IntKind.i64.wrap (i + 1) = i + 1 ∧ i + 1 ≤ zl := by simp only [decide_eq_true_eq]; intro h; exact ⟨wrap_in (by omega), by omega⟩
  have hdr : ∀ x, ar[i.toNat]? = some x → ar.drop i.toNat = x :: ar.drop (i + 1).toNat := by
    intro x hx
    rw [List.drop_eq_getElem_cons (List.getElem?_eq_some_iff.1 hx).1, (List.getElem?_eq_some_iff.1 hx).2, show (i + 1).toNat = i.toNat + 1 by omega]
  have hpc : ∀ (op' m' vk' vn' : Int) (vs' : ByteArray) (ar' : List Ex) (es' : List (List PV)), ar[i.toNat]? = some (.mk op' m' ⟨vk', vn', vs'⟩ ar') → ar'.map Ex.cells = es' → ∃ k2 b2, kindE K (.mk op' m' ⟨vk', vn', vs'⟩ ar') = (k2, b2) ∧ PCall Try.prog 163 [.agg [.int .i64 op', .int .i64 m', .int .i64 vk', .int .i64 vn', .str vs', .sl es'], .sl C] fun r => r = [.int .i64 k2, .bool b2] := by
    intro op' m' vk' vn' vs' ar' es' hx he
    exact IH _ (List.mem_of_getElem? hx) _ C (by rw [cells_mk, he]) hC
  have hend : decide (i < zl) = false → kindL K ar = some acc ∧ (acc.length : Int) = arityE op := by
    intro h
    simp only [decide_eq_false_iff_not] at h
    refine ⟨?_, by omega⟩
    rw [hkl, List.drop_eq_nil_of_le (by omega), kindL]
    simp
  have hf2 := kfit_c 2 acc C1 hC1
  have hf1 := kfit_c 1 acc C1 hC1
  have hm0 : decide (op = 1) = true → (0 ≤ m ∧ m < (K.length : Int)) := by simp only [decide_eq_true_eq]; exact hm
  have har : decide (12 ≤ op) = true → decide (op ≤ 17) = true → arityE op = 2 := by
    simp only [decide_eq_true_eq]; intro h1 h2; unfold arityE; (repeat' split) <;> omega
  have ha21 : decide (op = 21) = true → arityE op = 3 := by
    simp only [decide_eq_true_eq]; intro h1; unfold arityE; (repeat' split) <;> omega
  obtain ⟨y0, hy0⟩ : ∃ y, (acc[0]?).getD 0 = y := ⟨_, rfl⟩
  obtain ⟨y1, hy1⟩ : ∃ y, (acc[1]?).getD 0 = y := ⟨_, rfl⟩
  obtain ⟨y2, hy2⟩ : ∃ y, (acc[2]?).getD 0 = y := ⟨_, rfl⟩
  have hgt : ∀ (j : Nat), j < acc.length → C1[j]? = some [.int .i64 ((acc[j]?).getD 0)] := by
    intro j h
    rw [← hC1, List.getElem?_map, List.getElem?_eq_getElem h]; rfl
  have hi0a : decide (i < zl) = false → arityE op = 2 ∨ arityE op = 3 → C1[Int.toNat 0]? = some [.int .i64 y0] := by
    intro h1 h2
    have := (hend h1).2
    rw [← hy0]; exact hgt 0 (by omega)
  have hi1a : decide (i < zl) = false → arityE op = 2 ∨ arityE op = 3 → C1[Int.toNat 1]? = some [.int .i64 y1] := by
    intro h1 h2
    have := (hend h1).2
    rw [← hy1]; exact hgt 1 (by omega)
  have hi2a : decide (i < zl) = false → arityE op = 3 → C1[Int.toNat 2]? = some [.int .i64 y2] := by
    intro h1 h2
    have := (hend h1).2
    rw [← hy2]; exact hgt 2 (by omega)
  have hf0 := kfit_c 1 [y0] [[.int .i64 y0]] rfl
  have hp01 := pair_c y0 y1
  have hp12 := pair_c y1 y2
  repeat' (first
    | (with_reducible refine Nm.mk ?_; intro z hz)
    | (with_reducible refine IfB.mk ?_ ?_ <;> (intro h; cases h))
    | (with_reducible refine Two.l ?_; refine Asm.mk ?_ ?_; focus (decide +kernel))
    | (with_reducible refine Two.r ?_)
    | (with_reducible refine Asm.mk ?_ ?_; focus (first | (refine ⟨hm1.symm, rfl, hok, rfl, ?_, ?_⟩ <;> (clear hR hQ; simp only [List.length_cons, List.length_nil, maxLen]; omega)) | (show (_ : Bool) = true; kernel_rfl)))
    | (with_reducible refine isCP hcp ?_; first | (refine bP hcp (hf2) ?_; intro z hz) | (refine bP hcp (hf1) ?_; intro z hz) | (refine bP hcp (hf0) ?_; intro z hz) | (refine vP hcp (rclean_c vk vn vs) ?_; intro v hv) | (refine ibP hcp (hp01) ?_; intro z w hz hw) | (refine ibP hcp (hp12) ?_; intro z w hz hw))
    | (with_reducible refine isCC hcc ?_; first | (refine bA hcc (hf2) rfl ?_; intro z hz) | (refine bA hcc (hf1) rfl ?_; intro z hz) | (refine bA hcc (hf0) rfl ?_; intro z hz) | (refine vA hcc (rclean_c vk vn vs) rfl ?_; intro v hv) | (refine ibA hcc (hp01) rfl ?_; intro z w hz hw) | (refine ibA hcc (hp12) rfl ?_; intro z w hz hw))
    | (with_reducible refine Ix.ex hes hi0 (hk (by assumption)) ?_; intro op' m' vk' vn' vs' ar' es' hx hes')
    | (with_reducible refine Ix.map hC i64c_len (by decide) (hm0 (by assumption)).1 (hm0 (by assumption)).2 ?_; intro xk hxk)
    | (with_reducible refine isCC hcc ?_; obtain ⟨k2, b2, hk2, hcall⟩ := hpc _ _ _ _ _ _ _ hx hes'; refine xA hcc hcall rfl ?_)
    | (with_reducible refine Ix.giveK (by decide) (hi0a (by assumption) (by first | exact .inl (har (by assumption) (by assumption)) | exact .inr (ha21 (by assumption)))) rfl (by decide) ?_)
    | (with_reducible refine Ix.giveK (by decide) (hi1a (by assumption) (by first | exact .inl (har (by assumption) (by assumption)) | exact .inr (ha21 (by assumption)))) rfl (by decide) ?_)
    | (with_reducible refine Ix.giveK (by decide) (hi2a (by assumption) (ha21 (by assumption))) rfl (by decide) ?_)
    | (with_reducible refine Asm.mk2 ?_ ?_)
    | ((fail_if_success (with_reducible first | refine hQ _ ?_ | refine Side.mk ?_ | refine isCP hcp ?_ | refine isCC hcc ?_ | refine isLP hlp ?_ | refine Ix.mk ?_ | refine SIx.mk ?_ | refine SEx.mk ?_ | refine EIx.mk ?_ | refine RIx.mk ?_ | show False | refine hR ?_ _ ?_ ?_ ?_ ?_ ?_ | refine hR2 ?_ _ ?_ ?_ ?_ ?_ ?_)); cbv))
  · have hb2 : b2 = false := by simpa using hz
    refine hQ _ ?_
    rw [hkl, hdr _ hx, kindL, hk2, hb2] at hq
    simp only [Option.map_none, Prod.mk.injEq] at hq
    rw [← hq.1, ← hq.2]
  · have hb2 : b2 = true := by simpa using (show (!b2) = false by assumption)
    obtain ⟨e1, e2⟩ := hki (by assumption)
    rw [e1] at hz
    rename_i C3 hC3 m3 hm3
    have hnew : kindL K ar = (kindL K (ar.drop (i + 1).toNat)).map ((acc ++ [k2]) ++ ·) := by
      rw [hkl, hdr _ hx, kindL, hk2, hb2]
      dsimp only
      rw [Option.map_map]
      congr 1
      funext r
      simp
    refine hR (i + 1, acc ++ [k2], C3, m3) _ ⟨⟨by show 0 ≤ i + 1; omega, e2⟩, by show (acc ++ [k2]).map i64c = C3; rw [← hC3, ← hC1]; simp [i64c], by show C3.length = m3; rw [← hC3, ← hm3, List.length_append], by show (acc ++ [k2]).length = (i + 1).toNat; rw [List.length_append, hacc, List.length_singleton]; omega, hnew⟩ (by show (zl - (i + 1)).toNat < (zl - i).toNat; omega) ⟨rfl, hz ▸ rfl, trivial⟩ ⟨rfl, rfl, rfl, rfl, trivial⟩ rfl
  all_goals
    (refine hQ _ ?_
     rw [(hend (by assumption)).1] at hq
     dsimp only at hq
     clear hQ hR hcp hcc hlp hpc IH hend hk hki hdr hf1 hf2 hf0 hp01 hp12 hi0a hi1a hi2a hgt har ha21 hkl hm0 hm
     simp only [decide_eq_true_eq, decide_eq_false_iff_not] at *
     try rw [hy0] at hq
     try rw [hy1] at hq
     try rw [hy2] at hq
     repeat (first | rw [if_pos (by omega)] at hq | rw [if_neg (by omega)] at hq)
     simp only [Prod.mk.injEq] at hq
     obtain ⟨q1, q2⟩ := hq
     subst q1 q2
     subst_vars
     first
       | rfl
       | (simp_all; done))
theorem kind_all (K : List Int) : ∀ (n : Nat) (e : Ex), e.sz ≤ n → e.fine K.length → KindC K e
  | 0, .mk op m v ar, h, _ => by simp [Ex.sz] at h
  | n + 1, .mk op m ⟨vk, vn, vs⟩ ar, h, hf => by
    intro cells C he hC
    rw [cells_mk] at he
    subst he
    rw [Ex.fine] at hf
    obtain ⟨f1, f2, f3⟩ := hf
    refine ⟨_, _, rfl, kind_c K C hC op m vk vn vs ar _ rfl f1.symm f2 (fun x hx => kind_all K n x ?_ (fine_mem f3 hx)) _ _ rfl⟩
    have := sz_mem hx
    simp only [Ex.sz] at h; omega
/- What the columns of an expression are. -/
mutual
def Ex.cols : Ex → List Int
  | .mk op m _ ar => (if op = 1 then [m] else []) ++ colsOf ar
def colsOf : List Ex → List Int
  | [] => []
  | e :: r => e.cols ++ colsOf r
end
mutual
theorem walk_fine (n : Nat) : ∀ (e : Ex) (d k h : Int), (walkE e d k h).1 = true → (∀ c, c ∈ e.cols → c < (n : Int)) → e.fine n
  | .mk op m v ar, d, k, h, hw, hc => by
    rw [walkE] at hw
    split at hw
    · cases hw
    · rename_i hb
      have hb2 : badE op m v ar.length = false := by
        cases hx : badE op m v ar.length with
        | false => rfl
        | true => exact absurd (by rw [hx]; simp) hb
      rw [Ex.fine]
      simp only [badE, Bool.or_eq_false_iff, Bool.not_eq_false', decide_eq_true_eq, Bool.and_eq_false_iff, decide_eq_false_iff_not] at hb2
      refine ⟨hb2.1.1, fun h1 => ⟨?_, hc m (by rw [Ex.cols, if_pos h1]; simp)⟩, walkL_fine n ar _ _ _ hw (fun c h2 => hc c (by rw [Ex.cols]; exact List.mem_append_right _ h2))⟩
      rcases hb2.1.2 with h2 | h2
      · exact absurd h1 h2
      · omega
theorem walkL_fine (n : Nat) : ∀ (l : List Ex) (d k h : Int), (walkL l d k h).1 = true → (∀ c, c ∈ colsOf l → c < (n : Int)) → fineL n l
  | [], _, _, _, _, _ => trivial
  | a :: r, d, k, h, hw, hc => by
    rw [walkL] at hw
    rw [fineL]
    rcases hx : walkE a d k h with ⟨b, k', h'⟩
    rw [hx] at hw
    cases b with
    | false => cases hw
    | true =>
      refine ⟨walk_fine n a d k h (by rw [hx]) (fun c h2 => hc c (by rw [colsOf]; exact List.mem_append_left _ h2)), walkL_fine n r d k' h' hw (fun c h2 => hc c (by rw [colsOf]; exact List.mem_append_right _ h2))⟩
end
theorem built_fine {n : Nat} {e : Ex} (hb : builtM e = true) (hc : ∀ c, c ∈ e.cols → c < (n : Int)) : e.fine n := by
  refine walk_fine n e 1 0 0 ?_ hc
  have hb2 : (sizeM e).1 ≤ 400 := of_decide_eq_true hb
  cases hw : (walkE e 1 0 0).1 with
  | true => rfl
  | false =>
    rw [sizeM, if_neg (by rw [hw]; decide)] at hb2
    exact absurd hb2 (by decide)
end Go.Proofs.Ytnhmnfokbinplaa

namespace Go.Proofs.Ytnhmnfokbinplaa
open Go Go.RowKit
set_option maxRecDepth 100000
set_option linter.unusedSimpArgs false
set_option linter.unusedVariables false

theorem mem_insC {x c : Int} {L : List Int} (h : c ∈ L ∨ c = x) : c ∈ insC x L := by
  rw [insC]
  split
  · rename_i hx
    rcases h with h | h
    · exact h
    · rw [h]; exact List.mem_of_getElem? hx
  · rcases h with h | h
    · rw [← List.take_append_drop (insAt x L) L] at h
      rcases List.mem_append.1 h with h | h
      · exact List.mem_append_left _ h
      · exact List.mem_append_right _ (List.mem_cons_of_mem _ h)
    · rw [h]; exact List.mem_append_right _ (List.mem_cons_self)
mutual
theorem mem_colsE : ∀ (e : Ex) (L : List Int) (c : Int), c ∈ L ∨ c ∈ e.cols → c ∈ colsE e L
  | .mk op m v ar, L, c, h => by
    rw [colsE]
    rw [Ex.cols] at h
    by_cases h1 : op = 1
    · rw [if_pos h1] at h ⊢
      refine mem_colsL ar _ c ?_
      rcases h with h | h
      · exact .inl (mem_insC (.inl h))
      · rcases List.mem_append.1 h with h | h
        · exact .inl (mem_insC (.inr (by simpa using h)))
        · exact .inr h
    · rw [if_neg h1] at h ⊢
      refine mem_colsL ar _ c ?_
      rcases h with h | h
      · exact .inl h
      · exact .inr (by simpa using h)
theorem mem_colsL : ∀ (l : List Ex) (L : List Int) (c : Int), c ∈ L ∨ c ∈ colsOf l → c ∈ colsKL l L
  | [], L, c, h => by
    rcases h with h | h
    · exact h
    · simp [colsOf] at h
  | e :: r, L, c, h => by
    rw [colsKL]
    rw [colsOf] at h
    refine mem_colsL r _ c ?_
    rcases h with h | h
    · exact .inl (mem_colsE e L c (.inl h))
    · rcases List.mem_append.1 h with h | h
      · exact .inl (mem_colsE e L c (.inr h))
      · exact .inr h
end
def badK (l : List Int) : Bool := l.any fun k => !decide (k = 1) && !decide (k = 2)
def lostK (n : Nat) (l : List Int) : Bool := l.any fun c => decide ((n : Int) ≤ c)
def kindM (K : List Int) (e : Ex) : Int × Int :=
  if builtM e = false then (0, 1) else if badK K = true then (0, 1) else if lostK K.length (colsE e []) = true then (0, 1) else if (kindE K e).2 = false then (0, 4) else ((kindE K e).1, 0)
theorem kind_fine {K : List Int} {e : Ex} (hb : builtM e = true) (hl : lostK K.length (colsE e []) = false) : e.fine K.length := by
  refine built_fine hb fun c hc => ?_
  have hm := mem_colsE e [] c (.inr hc)
  have := List.any_eq_false.1 hl c hm
  simpa using this

set_option maxHeartbeats 2000000 in
theorem rkind_c (K : List Int) (C : List (List PV)) (hC : K.map i64c = C) (op n vk vn : Int) (vs : ByteArray) (ar : List Ex) (es : List (List PV)) (hes : ar.map Ex.cells = es) (hw : (Ex.mk op n ⟨vk, vn, vs⟩ ar).wide) :
    PCall Try.prog 112 [.agg [.int .i64 op, .int .i64 n, .int .i64 vk, .int .i64 vn, .str vs, .sl es], .sl C] fun r => r = [.int .i64 (kindM K (.mk op n ⟨vk, vn, vs⟩ ar)).1, .int .i64 (kindM K (.mk op n ⟨vk, vn, vs⟩ ar)).2] := by
  refine PCall.know c112 fun hkn => ?_
  have k1 : C.length ≤ maxLen := hkn (.sl C) (by simp)
  clear hkn
  rw [maxLen_eq] at k1
  have b1 : C.length = K.length := by rw [← hC]; simp
  have hbc := rbuilt_c op n vk vn vs ar es hes hw
  have hcc0 := rcolumns_c op n vk vn vs ar es hes hw
  obtain ⟨e, he⟩ : ∃ e, Ex.mk op n ⟨vk, vn, vs⟩ ar = e := ⟨_, rfl⟩
  have hkc : builtM e = true → lostK K.length (colsE e []) = false → ∃ k b, kindE K e = (k, b) ∧ PCall Try.prog 163 [.agg [.int .i64 op, .int .i64 n, .int .i64 vk, .int .i64 vn, .str vs, .sl es], .sl C] fun r => r = [.int .i64 k, .bool b] := by
    intro h1 h2
    exact kind_all K _ e (Nat.le_refl _) (kind_fine h1 h2) _ C (by rw [← he, cells_mk, hes]) hC
  rw [he] at hbc hcc0 ⊢
  obtain ⟨kr, er, hkr⟩ : ∃ a b, kindM K e = (a, b) := ⟨_, _, rfl⟩
  rw [hkr]
  obtain ⟨bt, hbt⟩ : ∃ b, builtM e = b := ⟨_, rfl⟩
  rw [hbt] at hbc
  obtain ⟨cl, hcl⟩ : ∃ l, colsKM e = l := ⟨_, rfl⟩
  rw [hcl] at hcc0
  have hcle : bt = true → colsE e [] = cl := by intro h; rw [← hcl, colsKM, hbt, if_pos h]
  rw [kindM, hbt] at hkr
  have hbn : ∀ {z : Bool}, bt = z → (!z) = false → bt = true := by rintro z rfl h; simpa using h
  have hbf : ∀ {z : Bool}, bt = z → (!z) = true → bt = false := by rintro z rfl h; simpa using h
  refine PCall.x (nt := 49) (res := [.tmp 4, .tmp 5]) mixed tt_ok [] Try.func112 rfl rfl rfl c112 (Nat.le_of_ble_eq_true rfl) ?_
  intro cp cc lp Q' hcp hcc hlp hQ
  repeat' (first
    | (with_reducible refine Nm.mk ?_; intro z hz)
    | (with_reducible refine IfB.mk ?_ ?_ <;> (intro h; cases h))
    | (with_reducible refine Two.l ?_; refine Asm.mk ?_ ?_; focus (decide +kernel))
    | (with_reducible refine Two.r ?_)
    | (with_reducible refine Asm.mk ?_ ?_; focus kernel_rfl)
    | (with_reducible refine isCP hcp ?_; first | (refine bP hcp (hbc) ?_; intro z hz))
    | (with_reducible refine isCC hcc ?_; first | (refine bA hcc (hbc) rfl ?_; intro z hz))
    | (with_reducible refine Asm.mk2 ?_ ?_)
    | ((fail_if_success (with_reducible first | refine hQ _ ?_ | refine Side.mk ?_ | refine isCP hcp ?_ | refine isCC hcc ?_ | refine isLP hlp ?_ | refine Ix.mk ?_ | refine SIx.mk ?_ | refine SEx.mk ?_ | refine EIx.mk ?_ | refine RIx.mk ?_ | show False | refine hR ?_ _ ?_ ?_ ?_ ?_ ?_ | refine hR2 ?_ _ ?_ ?_ ?_ ?_ ?_)); cbv))
  · have hb := hbf (by assumption) (by assumption)
    rw [if_pos hb] at hkr
    simp only [Prod.mk.injEq] at hkr
    refine hQ _ ?_
    rw [← hkr.1, ← hkr.2]
  · have hb := hbn (by assumption) (by assumption)
    rw [if_neg (by rw [hb]; decide)] at hkr
    have hL := hcle hb
    have hclen : cl.length ≤ 400 := by
      have h1 := colsG_len e (0, [])
      rw [colsG_2] at h1
      have h2 := built_szK (e := e) (by rw [hbt]; exact hb)
      rw [← hL]
      have h3 : (colsE e []).length ≤ 0 + e.sz := h1
      omega
    rw [hL] at hkr
    have hkc2 := hkc (by rw [hbt]; exact hb)
    rw [hL] at hkc2
    clear hbn hbf hbc hcle
    simp only [nc] at hz
    simp only [nc'] at hz
    have hzl : z.toNat = K.length ∧ 0 ≤ z ∧ z ≤ 9223372036854775807 := by omega
    obtain ⟨hzl, hzl0, hzl1⟩ := hzl
    clear hz
    generalize z = zl at *
    obtain ⟨q, hq⟩ : ∃ q, badK K = q := ⟨_, rfl⟩
    rw [hq] at hkr
    refine loopK (ι := Int) mixed tt_ok hcp hcc hlp [1, 2, 15, 16] (fun i => [(17, .p (.int .i64 i))]) (fun i => (0 ≤ i ∧ i ≤ zl) ∧ badK (K.drop i.toNat) = q) (fun i => (zl - i).toNat) 0 (fun _ => rfl) ⟨⟨by omega, by omega⟩, hq⟩ ⟨rfl, trivial⟩ ?_
    rintro R i ⟨⟨hi0, hi1⟩, hf⟩ hR
    have hk : decide (i < zl) = true → i < K.length := by simp only [decide_eq_true_eq]; omega
    have hki : decide (i < zl) = true → IntKind.i64.wrap (i + 1) = i + 1 ∧ i + 1 ≤ zl ∧ (zl - (i + 1)).toNat < (zl - i).toNat := by simp only [decide_eq_true_eq]; intro h; exact ⟨wrap_in (by omega), by omega, by omega⟩
    have hdr : ∀ x, K[i.toNat]? = some x → K.drop i.toNat = x :: K.drop (i + 1).toNat := by
      intro x hx
      rw [List.drop_eq_getElem_cons (List.getElem?_eq_some_iff.1 hx).1, (List.getElem?_eq_some_iff.1 hx).2, show (i + 1).toNat = i.toNat + 1 by omega]
    have hbad : ∀ {x : Int}, K[i.toNat]? = some x → (!decide (x = 1)) = true → (!decide (x = 2)) = true → q = true := by
      intro x hx h1 h2
      rw [← hf, hdr x hx, badK, List.any_cons, h1, h2]; rfl
    have hgood : ∀ {x : Int}, K[i.toNat]? = some x → ((!decide (x = 1)) = false ∨ (!decide (x = 2)) = false) → badK (K.drop (i + 1).toNat) = q := by
      intro x hx h
      rw [← hf, hdr x hx, badK, badK, List.any_cons]
      rcases h with h | h <;> rw [h] <;> simp
    have hout : decide (i < zl) = false → q = false := by
      simp only [decide_eq_false_iff_not]; intro h
      rw [← hf, List.drop_eq_nil_of_le (by omega)]; rfl
    repeat' (first
      | (with_reducible refine Nm.mk ?_; intro z hz)
      | (with_reducible refine IfB.mk ?_ ?_ <;> (intro h; cases h))
      | (with_reducible refine Two.l ?_; refine Asm.mk ?_ ?_; focus (decide +kernel))
      | (with_reducible refine Two.r ?_)
      | (with_reducible refine Asm.mk ?_ ?_; focus kernel_rfl)
      | (with_reducible refine isCP hcp ?_; first | (refine lP hcp (hcc0) ?_; intro z hz))
      | (with_reducible refine isCC hcc ?_; first | (refine lA hcc (hcc0) rfl ?_; intro z hz))
      | (with_reducible refine Ix.map hC i64c_len (by decide) hi0 (hk (by assumption)) ?_; intro x hx)
      | (with_reducible refine Asm.mk2 ?_ ?_)
      | ((fail_if_success (with_reducible first | refine hQ _ ?_ | refine Side.mk ?_ | refine isCP hcp ?_ | refine isCC hcc ?_ | refine isLP hlp ?_ | refine Ix.mk ?_ | refine SIx.mk ?_ | refine SEx.mk ?_ | refine EIx.mk ?_ | refine RIx.mk ?_ | show False | refine hR ?_ _ ?_ ?_ ?_ ?_ ?_ | refine hR2 ?_ _ ?_ ?_ ?_ ?_ ?_)); cbv))
    · rw [hbad hx (by assumption) (by assumption), if_pos rfl] at hkr
      simp only [Prod.mk.injEq] at hkr
      refine hQ _ ?_
      rw [← hkr.1, ← hkr.2]
    · obtain ⟨e1, e2, e3⟩ := hki (by assumption)
      rw [e1] at hz
      exact hR (i + 1) _ ⟨⟨by omega, e2⟩, hgood hx (.inr (by assumption))⟩ e3 ⟨hz ▸ rfl, trivial⟩ ⟨rfl, rfl, rfl, rfl, trivial⟩ rfl
    · obtain ⟨e1, e2, e3⟩ := hki (by assumption)
      rw [e1] at hz
      exact hR (i + 1) _ ⟨⟨by omega, e2⟩, hgood hx (.inl (by assumption))⟩ e3 ⟨hz ▸ rfl, trivial⟩ ⟨rfl, rfl, rfl, rfl, trivial⟩ rfl
    · rename_i D hD
      have hqf := hout (by assumption)
      rw [hqf, if_neg (by decide)] at hkr
      clear hbad hgood hout hki hk hdr hR hf
      have hDl : D.length = cl.length := by rw [← hD]; simp
      simp only [nc] at hz
      simp only [nc'] at hz
      have hyl : z.toNat = cl.length ∧ 0 ≤ z := by omega
      obtain ⟨hyl, hyl0⟩ := hyl
      clear hz
      generalize z = yl at *
      obtain ⟨q2, hq2⟩ : ∃ q, lostK K.length cl = q := ⟨_, rfl⟩
      rw [hq2] at hkr hkc2
      have hcb : yl ≤ 400 := by omega
      refine loopK (ι := Int) mixed tt_ok hcp hcc hlp [1, 2, 29, 30] (fun j => [(31, .p (.int .i64 j))]) (fun j => (0 ≤ j ∧ j ≤ yl) ∧ lostK K.length (cl.drop j.toNat) = q2) (fun j => (yl - j).toNat) 0 (fun _ => rfl) ⟨⟨by omega, by omega⟩, hq2⟩ ⟨rfl, trivial⟩ ?_
      rintro R j ⟨⟨hj0, hj1⟩, hf⟩ hR
      have hk : decide (j < yl) = true → j < cl.length := by simp only [decide_eq_true_eq]; omega
      have hki : decide (j < yl) = true → IntKind.i64.wrap (j + 1) = j + 1 ∧ j + 1 ≤ yl ∧ (yl - (j + 1)).toNat < (yl - j).toNat := by simp only [decide_eq_true_eq]; intro h; exact ⟨wrap_in (by omega), by omega, by omega⟩
      have hdr : ∀ x, cl[j.toNat]? = some x → cl.drop j.toNat = x :: cl.drop (j + 1).toNat := by
        intro x hx
        rw [List.drop_eq_getElem_cons (List.getElem?_eq_some_iff.1 hx).1, (List.getElem?_eq_some_iff.1 hx).2, show (j + 1).toNat = j.toNat + 1 by omega]
      have hbad : ∀ {x w : Int}, cl[j.toNat]? = some x → decide (w ≤ x) = true → (C.length : Int) = w → q2 = true := by
        intro x w hx h1 h2
        rw [← hf, hdr x hx, lostK, List.any_cons, ← b1, h2, h1]; rfl
      have hgood : ∀ {x w : Int}, cl[j.toNat]? = some x → decide (w ≤ x) = false → (C.length : Int) = w → lostK K.length (cl.drop (j + 1).toNat) = q2 := by
        intro x w hx h1 h2
        rw [← hf, hdr x hx, lostK, lostK, List.any_cons, ← b1, h2, h1]; simp
      have hout : decide (j < yl) = false → q2 = false := by
        simp only [decide_eq_false_iff_not]; intro h
        rw [← hf, List.drop_eq_nil_of_le (by omega)]; rfl
      repeat' (first
        | (with_reducible refine Nm.mk ?_; intro z hz)
        | (with_reducible refine IfB.mk ?_ ?_ <;> (intro h; cases h))
        | (with_reducible refine Two.l ?_; refine Asm.mk ?_ ?_; focus (decide +kernel))
        | (with_reducible refine Two.r ?_)
        | (with_reducible refine Asm.mk ?_ ?_; focus kernel_rfl)
        | (with_reducible refine Ix.map hD i64c_len (by decide) hj0 (hk (by assumption)) ?_; intro x hx)
        | (with_reducible refine isCC hcc ?_; obtain ⟨k2, b2, hk2, hcall⟩ := hkc2 (hout (by assumption)); refine xA hcc hcall rfl ?_)
        | (with_reducible refine Asm.mk2 ?_ ?_)
        | ((fail_if_success (with_reducible first | refine hQ _ ?_ | refine Side.mk ?_ | refine isCP hcp ?_ | refine isCC hcc ?_ | refine isLP hlp ?_ | refine Ix.mk ?_ | refine SIx.mk ?_ | refine SEx.mk ?_ | refine EIx.mk ?_ | refine RIx.mk ?_ | show False | refine hR ?_ _ ?_ ?_ ?_ ?_ ?_ | refine hR2 ?_ _ ?_ ?_ ?_ ?_ ?_)); cbv))
      · rw [hbad hx (by assumption) (by assumption), if_pos rfl] at hkr
        simp only [Prod.mk.injEq] at hkr
        refine hQ _ ?_
        rw [← hkr.1, ← hkr.2]
      · obtain ⟨e1, e2, e3⟩ := hki (by assumption)
        rw [e1] at hz
        exact hR (j + 1) _ ⟨⟨by omega, e2⟩, hgood hx (by assumption) (by assumption)⟩ e3 ⟨hz ▸ rfl, trivial⟩ ⟨rfl, rfl, rfl, rfl, trivial⟩ rfl
      · have hb2 : b2 = false := by simpa using hz
        rw [hout (by assumption), if_neg (by decide), hk2, hb2, if_pos rfl] at hkr
        simp only [Prod.mk.injEq] at hkr
        refine hQ _ ?_
        rw [← hkr.1, ← hkr.2]
      · have hb2 : b2 = true := by simpa using hz
        rw [hout (by assumption), if_neg (by decide), hk2, hb2, if_neg (fun h => by cases h)] at hkr
        simp only [Prod.mk.injEq] at hkr
        refine hQ _ ?_
        rw [← hkr.1, ← hkr.2]
end Go.Proofs.Ytnhmnfokbinplaa

namespace Go.Proofs.Ytnhmnfokbinplaa
open Go Go.RowKit
set_option maxRecDepth 100000
set_option linter.unusedSimpArgs false
set_option linter.unusedVariables false

def Vec.cells (v : Vec) : List PV := [.int .i64 v.kind, .sl (v.null.map boolc), .sl (v.ns.map i64c), .sl (v.ss.map strc)]
def cellAt (v : Vec) (i : Nat) : List PV := (atV v.kind v.null v.ns v.ss i).cells
def len0 : List Vec → Nat
  | [] => 0
  | c :: _ => c.null.length
def okCol (n : Nat) (c : Vec) : Bool := goodV c && decide (c.null.length = n)
def tokM (cols : List Vec) : Bool := cols.all (okCol (len0 cols))
/-- The rows, where those ahead of i have k + 1 values and the others k. -/
def rowsAt (cols : List Vec) (n k i : Nat) : List (List (List PV)) := (List.range n).map fun j => (cols.take (if j < i then k + 1 else k)).map fun c => cellAt c j
def rowsP (l : List (List (List PV))) : List (List PV) := l.map fun r => [PV.sl r]
def tableM (cols : List Vec) : List (List (List PV)) × Int := if tokM cols then (rowsAt cols (len0 cols) cols.length 0, 0) else ([], 1)

theorem rowsAt_len (cols : List Vec) (n k i : Nat) : (rowsAt cols n k i).length = n := by simp [rowsAt]
theorem rowsAt_get (cols : List Vec) {n : Nat} (k i : Nat) {j : Nat} (hj : j < n) : (rowsAt cols n k i)[j]? = some ((cols.take (if j < i then k + 1 else k)).map fun c => cellAt c j) := by
  simp [rowsAt, hj]
theorem rowsAt_end (cols : List Vec) (n k : Nat) : rowsAt cols n k n = rowsAt cols n (k + 1) 0 := by
  apply List.ext_getElem?
  intro j
  by_cases hj : j < n
  · rw [rowsAt_get cols k n hj, rowsAt_get cols (k + 1) 0 hj, if_pos hj, if_neg (Nat.not_lt_zero j)]
  · rw [List.getElem?_eq_none (by rw [rowsAt_len]; omega), List.getElem?_eq_none (by rw [rowsAt_len]; omega)]
theorem rowsAt_step {cols : List Vec} {n k i : Nat} {c : Vec} (hi : i < n) (hc : cols[k]? = some c) {l : List (List PV)} (hl : (rowsAt cols n k i)[i]? = some l) : (rowsAt cols n k i).set i (l ++ [cellAt c i]) = rowsAt cols n k (i + 1) := by
  apply List.ext_getElem?
  intro j
  rw [rowsAt_get cols k i hi, if_neg (Nat.lt_irrefl i)] at hl
  simp only [Option.some.injEq] at hl
  by_cases hj : j < n
  · rw [rowsAt_get cols k (i + 1) hj]
    by_cases e : i = j
    · subst e
      rw [List.getElem?_set_self (by rw [rowsAt_len]; exact hj), if_pos (Nat.lt_succ_self i), List.take_add_one, hc, ← hl]
      simp
    · rw [List.getElem?_set_ne e, rowsAt_get cols k i hj]
      by_cases h : j < i
      · rw [if_pos h, if_pos (by omega)]
      · rw [if_neg h, if_neg (by omega)]
  · rw [List.getElem?_eq_none (by rw [List.length_set, rowsAt_len]; omega), List.getElem?_eq_none (by rw [rowsAt_len]; omega)]
theorem IxV {L : List (List PV)} {V : List Vec} {n : Int} {K : List PV → Prop} (hl : V.map Vec.cells = L) (h0 : 0 ≤ n) (hn : n < V.length) (g : ∀ a B N S n1 n2 n3, V[n.toNat]? = some ⟨a, B, N, S⟩ → B.map boolc = n1 → N.map i64c = n2 → S.map strc = n3 → K [.int .i64 a, .sl n1, .sl n2, .sl n3]) : Ix 4 L n K := by
  have hlt : n.toNat < V.length := by omega
  refine ⟨(V[n.toNat]).cells, h0, ?_, rfl, by decide, g _ _ _ _ _ _ _ (List.getElem?_eq_getElem hlt) rfl rfl rfl⟩
  rw [← hl, List.getElem?_map, List.getElem?_eq_getElem hlt]; rfl

theorem tok_at {cols : List Vec} {k : Nat} {c : Vec} (h : cols[k]? = some c) (hb : okCol (len0 cols) c = false) : tokM cols = false := by
  cases hk : tokM cols with
  | false => rfl
  | true =>
    have := List.all_eq_true.1 hk c (List.mem_of_getElem? h)
    rw [hb] at this; cases this
theorem len0_at {cols : List Vec} {c : Vec} (h : cols[0]? = some c) : len0 cols = c.null.length := by
  cases cols with
  | nil => simp at h
  | cons x r => simp at h; subst h; rfl
theorem tok_up {cols : List Vec} (h : ∀ (k : Nat) c, cols[k]? = some c → okCol (len0 cols) c = true) : tokM cols = true := by
  refine List.all_eq_true.2 fun c hc => ?_
  obtain ⟨k, hk⟩ := List.getElem?_of_mem hc
  exact h k c hk

theorem not_dec {u v : Int} (h : (!decide (u = v)) = false) : u = v := by simpa using h
end Go.Proofs.Ytnhmnfokbinplaa

namespace Go.Proofs.Ytnhmnfokbinplaa
open Go Go.RowKit
set_option maxRecDepth 100000
set_option linter.unusedSimpArgs false
set_option linter.unusedVariables false

theorem work_fine {kc : Nat} {cc0 : List PV} {col : Int → Val} (N : Nat) (hcol : ∀ n : Int, 0 ≤ n → n < N → okV (col n) ∧ PCall Try.prog kc (.int .i64 n :: cc0) fun r => r = [(col n).enc]) :
    ∀ (m : Nat) (e : Ex), e.sz ≤ m → goodE e = true → e.okc → e.fine N → Works kc cc0 col e
  | 0, .mk op n v ar, h, _, _, _ => by simp [Ex.sz] at h
  | m + 1, .mk op n v ar, h, hg, ho, hf => by
    simp only [goodE, Bool.and_eq_true, Bool.not_eq_true'] at hg
    rw [Ex.fine] at hf
    refine work_c op n (fun h1 h2 => hcol n h2 (hf.2.1 h1).2) v ar hg.1 ho.1 fun x hx => work_fine N hcol m x ?_ (good_mem hg.2 hx) (okc_mem ho.2 hx) (fine_mem hf.2.2 hx)
    have := sz_mem hx
    simp only [Ex.sz] at h; omega

/-- The value of column c in row i. -/
def colF (cols : List Vec) (i : Nat) (c : Int) : Val := match cols[c.toNat]? with
  | some v => atV v.kind v.null v.ns v.ss i
  | none => Val.zero
def okCols (cols : List Vec) (n : Int) : Bool := cols.all fun c => goodV c && decide ((c.null.length : Int) = n)
def kindsC (cols : List Vec) : List Int := cols.map Vec.kind
def overVals (e : Ex) (cols : List Vec) (n : Nat) : List Val := (List.range n).map fun i => evalE (colF cols i) e
def overM (e : Ex) (cols : List Vec) (n : Int) : Vec × Int :=
  if n < 0 ∨ 4096 < n then (Vec.zero, 1) else if okCols cols n = false then (Vec.zero, 1) else
  if ¬ (kindM (kindsC cols) e).2 = 0 then (Vec.zero, (kindM (kindsC cols) e).2) else ((vfrom (mx (kindM (kindsC cols) e).1 1) (overVals e cols n.toNat)).1, 0)

theorem clean_atV (a : Int) (B : List Bool) (N : List Int) (S : List ByteArray) (i : Nat) : clean (atV a B N S i) = atV a B N S i := by
  unfold atV
  split
  · rfl
  split
  · rfl
  · rfl
/-- Row i of the columns, as a list of values. -/
def rowF (cols : List Vec) (i : Nat) : List Val := cols.map fun v => atV v.kind v.null v.ns v.ss i
theorem colOf_rowF (cols : List Vec) (i : Nat) : colOf (rowF cols i) = colF cols i := by
  funext c
  unfold colOf colF rowF
  rw [List.length_map]
  split
  · rename_i h
    cases hx : cols[c.toNat]? with
    | none => rfl
    | some v =>
      have := (List.getElem?_eq_some_iff.1 hx).1
      have h0 : cols.length = 0 := by omega
      omega
  · rename_i h
    have hlt : c.toNat < cols.length ∨ cols.length ≤ c.toNat := by omega
    rw [List.getElem?_map]
    cases hx : cols[c.toNat]? with
    | none => rfl
    | some v => exact clean_atV _ _ _ _ _
/-- Columns whose numbers and texts are within bounds. -/
def okVec (v : Vec) : Prop := (∀ n, n ∈ v.ns → -9223372036854775808 ≤ n ∧ n ≤ 9223372036854775807) ∧ ∀ s, s ∈ v.ss → s.size ≤ 140737488355328
theorem okV_atV {v : Vec} (h : okVec v) (i : Nat) : okV (atV v.kind v.null v.ns v.ss i) := by
  unfold atV
  split
  · exact okV_zero
  split
  · refine okV_num ?_
    cases hx : v.ns[i]? with
    | none => exact ⟨by decide, by decide⟩
    | some n => exact h.1 n (List.mem_of_getElem? hx)
  · refine ⟨by show _ ≤ (0 : Int) ∧ (0 : Int) ≤ _; omega, ?_⟩
    cases hx : v.ss[i]? with
    | none => show (0 : Nat) ≤ _; omega
    | some s => exact h.2 s (List.mem_of_getElem? hx)
theorem okV_colF {cols : List Vec} (h : ∀ v, v ∈ cols → okVec v) (i : Nat) (c : Int) : okV (colF cols i c) := by
  unfold colF
  split
  · rename_i v hv; exact okV_atV (h v (List.mem_of_getElem? hv)) i
  · exact okV_zero
theorem rowOk_rowF {cols : List Vec} (h : ∀ v, v ∈ cols → okVec v) (i : Nat) : rowOk (rowF cols i) := by
  intro v hv
  obtain ⟨c, hc, rfl⟩ := List.mem_map.1 hv
  exact okV_atV (h c hc) i
theorem okCols_at {cols : List Vec} {n : Int} {k : Nat} {c : Vec} (h : cols[k]? = some c) (hb : goodV c = false ∨ ¬ (c.null.length : Int) = n) : okCols cols n = false := by
  cases hk : okCols cols n with
  | false => rfl
  | true =>
    have := List.all_eq_true.1 hk c (List.mem_of_getElem? h)
    simp only [Bool.and_eq_true, decide_eq_true_eq] at this
    rcases hb with hb | hb
    · rw [hb] at this; cases this.1
    · exact absurd this.2 hb
theorem overVals_step (e : Ex) (cols : List Vec) (n : Nat) : overVals e cols (n + 1) = overVals e cols n ++ [evalE (colF cols n) e] := by
  simp [overVals, List.range_succ]
theorem overVals_len (e : Ex) (cols : List Vec) (n : Nat) : (overVals e cols n).length = n := by simp [overVals]
end Go.Proofs.Ytnhmnfokbinplaa

namespace Go.Proofs.Ytnhmnfokbinplaa
open Go Go.RowKit
set_option maxRecDepth 100000
set_option linter.unusedSimpArgs false
set_option linter.unusedVariables false

def lostH (b : Bool) (C : List (List PV)) : List AObj := [.cells [.p (.bool b)], .cells [.p (.sl C)]]
def lost1 (n : Nat) (op m : Int) (b : Bool) : Bool := b || (decide (op = 1) && decide ((n : Int) ≤ m))
theorem lost_c (C : List (List PV)) (op m vk vn : Int) (vs : ByteArray) (es : List (List PV)) (b : Bool) :
    ACall Try.prog 158 [.p (.agg [.int .i64 op, .int .i64 m, .int .i64 vk, .int .i64 vn, .str vs, .sl es]), .ref 0 0, .ref 1 0] (lostH b C) fun r H' => r = .tup [] ∧ takeX H' 2 = lostH (lost1 C.length op m b) C := by
  obtain ⟨q, hq⟩ : ∃ q, lost1 C.length op m b = q := ⟨_, rfl⟩
  rw [hq]
  refine ACall.x (nt := 17) (res := []) mixed tt_ok [] Try.func158 rfl rfl rfl c158 (Nat.le_of_ble_eq_true rfl) ?_
  intro cp cc lp Q' hcp hcc hlp hQ
  repeat' (first
    | (with_reducible refine Nm.mk ?_; intro z hz)
    | (with_reducible refine IfB.mk ?_ ?_ <;> (intro h; cases h))
    | (with_reducible refine Two.l ?_; refine Asm.mk ?_ ?_; focus (decide +kernel))
    | (with_reducible refine Two.r ?_)
    | (with_reducible refine Asm.mk ?_ ?_; focus (first | kernel_rfl | decide))
    | (with_reducible refine Asm.mk2 ?_ ?_)
    | ((fail_if_success (with_reducible first | refine hQ _ _ ?_ | refine Side.mk ?_ | refine isCP hcp ?_ | refine isCC hcc ?_ | refine isLP hlp ?_ | refine Ix.mk ?_ | refine SIx.mk ?_ | refine SEx.mk ?_ | refine EIx.mk ?_ | refine RIx.mk ?_ | show False | refine hR ?_ _ ?_ ?_ ?_ ?_ ?_ | refine hR2 ?_ _ ?_ ?_ ?_ ?_ ?_)); cbv))
  · refine hQ _ _ ⟨rfl, ?_⟩
    rw [← hq]; rfl
  · have h1 : decide (op = 1) = true := by assumption
    rename_i zn hzn
    refine hQ _ _ ⟨rfl, ?_⟩
    have e : q = z := by rw [← hq, lost1, h1, ← hz, ← hzn]; rfl
    rw [e]; rfl
  · refine hQ _ _ ⟨rfl, ?_⟩
    have e : q = false := by rw [← hq, lost1, hz]; rfl
    rw [e]; rfl
mutual
def lostE (n : Nat) : Ex → Bool → Bool
  | .mk op m _ ar, b => lost1 n op m (lostL n ar b)
def lostL (n : Nat) : List Ex → Bool → Bool
  | [], b => b
  | e :: r, b => lostL n r (lostE n e b)
end
def EachC (C : List (List PV)) (e : Ex) : Prop := ∀ (cells : List PV) (b : Bool), e.cells = cells → ∃ b', lostE C.length e b = b' ∧
  ACall Try.prog 142 [.p (.agg cells), .fn 158 [.ref 0 0, .ref 1 0]] (lostH b C) fun r H' => r = .tup [] ∧ takeX H' 2 = lostH b' C
set_option maxHeartbeats 2000000 in
theorem each_c (C : List (List PV)) (op m vk vn : Int) (vs : ByteArray) (ar : List Ex) (es : List (List PV)) (hes : ar.map Ex.cells = es) (hal : ar.length ≤ 140737488355328) (IH : ∀ x, x ∈ ar → EachC C x) (b b' : Bool) (hq : lostE C.length (.mk op m ⟨vk, vn, vs⟩ ar) b = b') :
    ACall Try.prog 142 [.p (.agg [.int .i64 op, .int .i64 m, .int .i64 vk, .int .i64 vn, .str vs, .sl es]), .fn 158 [.ref 0 0, .ref 1 0]] (lostH b C) fun r H' => r = .tup [] ∧ takeX H' 2 = lostH b' C := by
  have hel : es.length = ar.length := by rw [← hes]; simp
  rw [lostE] at hq
  refine ACall.x (nt := 20) (res := []) mixed tt_ok [] Try.func142 rfl rfl rfl c142 (Nat.le_of_ble_eq_true rfl) ?_
  intro cp cc lp Q' hcp hcc hlp hQ
  repeat' (first
    | (with_reducible refine Nm.mk ?_; intro z hz)
    | (with_reducible refine IfB.mk ?_ ?_ <;> (intro h; cases h))
    | (with_reducible refine Two.l ?_; refine Asm.mk ?_ ?_; focus (decide +kernel))
    | (with_reducible refine Two.r ?_)
    | (with_reducible refine Asm.mk ?_ ?_; focus (first | kernel_rfl | decide))
    | (with_reducible refine Asm.mk2 ?_ ?_)
    | ((fail_if_success (with_reducible first | refine hQ _ _ ?_ | refine Side.mk ?_ | refine isCP hcp ?_ | refine isCC hcc ?_ | refine isLP hlp ?_ | refine Ix.mk ?_ | refine SIx.mk ?_ | refine SEx.mk ?_ | refine EIx.mk ?_ | refine RIx.mk ?_ | show False | refine hR ?_ _ ?_ ?_ ?_ ?_ ?_ | refine hR2 ?_ _ ?_ ?_ ?_ ?_ ?_)); cbv))
  simp only [nc] at hz
  simp only [nc'] at hz
  have hzl : z.toNat = ar.length ∧ 0 ≤ z := by omega
  obtain ⟨hzl, hzl0⟩ := hzl
  clear hz
  generalize z = zl at *
  refine loopT (ι := Int × Bool) mixed tt_ok hcp hcc hlp [1, 2, 7, 8] (fun p => [(9, .p (.int .i64 p.1))]) (fun p => [.cells [.p (.bool p.2)], .cells [.p (.sl C)], .cells [.p (.int .i64 op), .p (.int .i64 m), .p (.int .i64 vk), .p (.int .i64 vn), .p (.str vs), .p (.sl es)]])
    (fun p => (0 ≤ p.1 ∧ p.1 ≤ zl) ∧ lostL C.length (ar.drop p.1.toNat) p.2 = lostL C.length ar b) (fun p => (zl - p.1).toNat) (0, _) 3 (fun _ => rfl) ⟨⟨by show (0 : Int) ≤ 0; omega, by show (0 : Int) ≤ zl; omega⟩, rfl⟩ ⟨rfl, trivial⟩ rfl ?_
  rintro R ⟨i, b1⟩ ⟨⟨hi0, hi1⟩, hf⟩ hR
  replace hi0 : 0 ≤ i := hi0
  replace hi1 : i ≤ zl := hi1
  replace hf : lostL C.length (ar.drop i.toNat) b1 = lostL C.length ar b := hf
  have hk : decide (i < zl) = true → i < ar.length := by simp only [decide_eq_true_eq]; omega
  have hki : decide (i < zl) = true → i + 1 ≤ zl ∧ i < 9223372036854775806 := by simp only [decide_eq_true_eq]; omega
  have hdr : ∀ x, ar[i.toNat]? = some x → ar.drop i.toNat = x :: ar.drop (i + 1).toNat := by
    intro x hx
    rw [List.drop_eq_getElem_cons (List.getElem?_eq_some_iff.1 hx).1, (List.getElem?_eq_some_iff.1 hx).2, show (i + 1).toNat = i.toNat + 1 by omega]
  have hpc : ∀ (op' m' vk' vn' : Int) (vs' : ByteArray) (ar' : List Ex) (es' : List (List PV)), ar[i.toNat]? = some (.mk op' m' ⟨vk', vn', vs'⟩ ar') → ar'.map Ex.cells = es' → ∃ b2, lostE C.length (.mk op' m' ⟨vk', vn', vs'⟩ ar') b1 = b2 ∧
      ACall Try.prog 142 [.p (.agg [.int .i64 op', .int .i64 m', .int .i64 vk', .int .i64 vn', .str vs', .sl es']), .fn 158 [.ref 0 0, .ref 1 0]] (lostH b1 C) fun r H' => r = .tup [] ∧ takeX H' 2 = lostH b2 C := by
    intro op' m' vk' vn' vs' ar' es' hx he
    exact IH _ (List.mem_of_getElem? hx) _ b1 (by rw [cells_mk, he])
  have hlast := lost_c C op m vk vn vs es b1
  obtain ⟨bl, hbl⟩ : ∃ q, lost1 C.length op m b1 = q := ⟨_, rfl⟩
  rw [hbl] at hlast
  repeat' (first
    | (with_reducible refine Nm.mk ?_; intro z hz)
    | (with_reducible refine IfB.mk ?_ ?_ <;> (intro h; cases h))
    | (with_reducible refine Two.l ?_; refine Asm.mk ?_ ?_; focus (decide +kernel))
    | (with_reducible refine Two.r ?_)
    | (with_reducible refine Asm.mk ?_ ?_; focus (show (_ : Bool) = true; kernel_rfl))
    | (with_reducible refine Ix.ex hes hi0 (hk (by assumption)) ?_; intro op' m' vk' vn' vs' ar' es' hx hes')
    | (with_reducible refine isCC hcc ?_; obtain ⟨b2, hb2, hcall⟩ := hpc _ _ _ _ _ _ _ hx hes'; refine frameK (H1 := lostH b2 C) hcc [0, 1] hcall rfl rfl rfl rfl rfl rfl rfl ?_)
    | (with_reducible refine isCC hcc ?_; refine frameK (H1 := lostH bl C) hcc [0, 1] hlast rfl rfl rfl rfl rfl rfl rfl ?_)
    | (with_reducible refine Asm.mk2 ?_ ?_)
    | ((fail_if_success (with_reducible first | refine hQ _ _ ?_ | refine Side.mk ?_ | refine isCP hcp ?_ | refine isCC hcc ?_ | refine isLP hlp ?_ | refine Ix.mk ?_ | refine SIx.mk ?_ | refine SEx.mk ?_ | refine EIx.mk ?_ | refine RIx.mk ?_ | show False | refine hR ?_ _ ?_ ?_ ?_ ?_ ?_ | refine hR2 ?_ _ ?_ ?_ ?_ ?_ ?_)); cbv))
  · have hlt := hki (by assumption)
    have hwi : IntKind.i64.wrap (i + 1) = i + 1 := wrap_in (by omega)
    rw [hwi] at hz
    rw [hdr _ hx, lostL, hb2] at hf
    exact hR (i + 1, b2) _ ⟨⟨by show 0 ≤ i + 1; omega, by show i + 1 ≤ zl; omega⟩, hf⟩ (by show (zl - (i + 1)).toNat < (zl - i).toNat; omega) ⟨hz ▸ rfl, trivial⟩ ⟨rfl, rfl, rfl, rfl, trivial⟩ rfl
  · have hge : ar.length ≤ i.toNat := by
      have : decide (i < zl) = false := by assumption
      simp only [decide_eq_false_iff_not] at this
      omega
    rw [List.drop_eq_nil_of_le hge, lostL] at hf
    rw [← hf, hbl] at hq
    refine hQ _ _ ⟨rfl, ?_⟩
    rw [← hq]; rfl
theorem each_all (C : List (List PV)) : ∀ (m : Nat) (e : Ex), e.sz ≤ m → e.wide → EachC C e
  | 0, .mk op m v ar, h, _ => by simp [Ex.sz] at h
  | k + 1, .mk op m ⟨vk, vn, vs⟩ ar, h, hw => by
    intro cells b he
    rw [cells_mk] at he
    subst he
    have hwi : wideN ar.length ∧ wideL ar := by rw [Ex.wide] at hw; exact hw
    have hwn : wideN ar.length := hwi.1
    unfold wideN at hwn
    refine ⟨_, rfl, each_c C op m vk vn vs ar _ rfl (by omega) (fun x hx => each_all C k x ?_ (wide_mem hwi.2 hx)) b _ rfl⟩
    have := sz_mem hx
    simp only [Ex.sz] at h; omega
end Go.Proofs.Ytnhmnfokbinplaa

namespace Go.Proofs.Ytnhmnfokbinplaa
open Go Go.RowKit
set_option maxRecDepth 100000
set_option linter.unusedSimpArgs false
set_option linter.unusedVariables false

def badH (b : Bool) : List AObj := [.cells [.p (.bool b)]]
theorem fit_c (x y : Int) (b b' : Bool) (hb : (b || !pairK x y) = b') :
    ACall Try.prog 159 [.p (.int .i64 x), .p (.int .i64 y), .ref 0 0] (badH b) fun r H' => r = .p (.int .i64 (mx x y)) ∧ takeX H' 1 = badH b' := by
  obtain ⟨q, hq⟩ : ∃ q, mx x y = q := ⟨_, rfl⟩
  rw [hq]
  have pf : (!decide (x = y)) = true → (!decide (x = 0)) = true → (!decide (y = 0)) = true → b' = true := by
    intro h1 h2 h3
    have e1 : decide (x = y) = false := by cases h : decide (x = y) <;> rw [h] at h1 <;> first | rfl | cases h1
    have e2 : decide (x = 0) = false := by cases h : decide (x = 0) <;> rw [h] at h2 <;> first | rfl | cases h2
    have e3 : decide (y = 0) = false := by cases h : decide (y = 0) <;> rw [h] at h3 <;> first | rfl | cases h3
    rw [← hb, pairK, e1, e2, e3]; cases b <;> rfl
  have pt : (!decide (x = y)) = false ∨ (!decide (x = 0)) = false ∨ (!decide (y = 0)) = false → b' = b := by
    intro h
    have e1 : pairK x y = true := by
      rw [pairK]
      rcases h with h | h | h
      · have : decide (x = y) = true := by cases h2 : decide (x = y) <;> rw [h2] at h <;> first | rfl | cases h
        rw [this]; rfl
      · have : decide (x = 0) = true := by cases h2 : decide (x = 0) <;> rw [h2] at h <;> first | rfl | cases h
        rw [this]; cases decide (x = y) <;> rfl
      · have : decide (y = 0) = true := by cases h2 : decide (y = 0) <;> rw [h2] at h <;> first | rfl | cases h
        rw [this]; cases decide (x = y) <;> cases decide (x = 0) <;> rfl
    rw [← hb, e1]; cases b <;> rfl
  clear hb
  refine ACall.x (nt := 20) (res := [.tmp 5]) mixed tt_ok [] Try.func159 rfl rfl rfl c159 (Nat.le_of_ble_eq_true rfl) ?_
  intro cp cc lp Q' hcp hcc hlp hQ
  repeat' (first
    | (with_reducible refine Nm.mk ?_; intro z hz)
    | (with_reducible refine IfB.mk ?_ ?_ <;> (intro h; cases h))
    | (with_reducible refine Two.l ?_; refine Asm.mk ?_ ?_; focus (decide +kernel))
    | (with_reducible refine Two.r ?_)
    | (with_reducible refine Asm.mk ?_ ?_; focus (first | kernel_rfl | decide))
    | (with_reducible refine Asm.mk2 ?_ ?_)
    | ((fail_if_success (with_reducible first | refine hQ _ _ ?_ | refine Side.mk ?_ | refine isCP hcp ?_ | refine isCC hcc ?_ | refine isLP hlp ?_ | refine Ix.mk ?_ | refine SIx.mk ?_ | refine SEx.mk ?_ | refine EIx.mk ?_ | refine RIx.mk ?_ | show False | refine hR ?_ _ ?_ ?_ ?_ ?_ ?_ | refine hR2 ?_ _ ?_ ?_ ?_ ?_ ?_)); cbv))
  all_goals
    (have e : z = q := by rw [← hz, ← hq]; rfl
     subst e
     refine hQ _ _ ⟨rfl, ?_⟩
     first
       | (rw [pf (by assumption) (by assumption) (by assumption)]; rfl)
       | (rw [pt (by first | exact .inl (by assumption) | exact .inr (.inl (by assumption)) | exact .inr (.inr (by assumption)))]; rfl))
end Go.Proofs.Ytnhmnfokbinplaa

namespace Go.Proofs.Ytnhmnfokbinplaa
open Go Go.RowKit
set_option maxRecDepth 100000
set_option linter.unusedSimpArgs false
set_option linter.unusedVariables false

def g0 (l : List Int) (i : Nat) : Int := (l[i]?).getD 0
def kindO (K : List Int) (op m : Int) (v : Val) (l : List Int) (b : Bool) : Int × Bool :=
  if op = 1 then (g0 K m.toNat, b) else if op = 2 then ((clean v).k, b) else if op = 5 then (1, b)
  else if op = 6 then (1, b || !pairK (g0 l 0) 2)
  else if op = 18 then (2, b || !pairK (g0 l 0) 2 || !pairK (g0 l 1) 2)
  else if 12 ≤ op ∧ op ≤ 17 then (1, b || !pairK (g0 l 0) (g0 l 1))
  else if op = 21 then (mx (g0 l 1) (g0 l 2), b || !pairK (g0 l 0) 1 || !pairK (g0 l 1) (g0 l 2))
  else (1, b || !fitK 1 l)
mutual
def kindF (K : List Int) : Ex → Bool → Int × Bool
  | .mk op m v ar, b => kindO K op m v (kindFL K ar b).1 (kindFL K ar b).2
def kindFL (K : List Int) : List Ex → Bool → List Int × Bool
  | [], b => ([], b)
  | e :: r, b => ((kindF K e b).1 :: (kindFL K r (kindF K e b).2).1, (kindFL K r (kindF K e b).2).2)
end
theorem kindO_true (K : List Int) (op m : Int) (v : Val) (l : List Int) : (kindO K op m v l true).2 = true := by
  unfold kindO
  (repeat' split) <;> simp
mutual
theorem kindF_true (K : List Int) : ∀ e : Ex, (kindF K e true).2 = true
  | .mk op m v ar => by rw [kindF, kindFL_true K ar]; exact kindO_true _ _ _ _ _
theorem kindFL_true (K : List Int) : ∀ l : List Ex, (kindFL K l true).2 = true
  | [] => rfl
  | e :: r => by rw [kindFL]; show (kindFL K r (kindF K e true).2).2 = true; rw [kindF_true K e]; exact kindFL_true K r
end
theorem pair_fit (a w : Int) (hw : w ≠ 0) : pairK a w = (decide (a = w) || decide (a = 0)) := by
  unfold pairK
  rw [show decide (w = 0) = false by simpa using hw, Bool.or_false]
theorem kindL_len (K : List Int) : ∀ (l : List Ex) (r : List Int), kindL K l = some r → r.length = l.length
  | [], r, h => by simp only [kindL, Option.some.injEq] at h; subst h; rfl
  | e :: t, r, h => by
    rw [kindL] at h
    split at h
    · cases hk : kindL K t with
      | none => rw [hk] at h; simp at h
      | some r' =>
        rw [hk] at h
        simp only [Option.map_some, Option.some.injEq] at h
        subst h
        simp [kindL_len K t r' hk]
    · cases h
theorem kindO_some {K : List Int} {op m : Int} {v : Val} {l : List Int} {ar : List Ex} (hl : kindL K ar = some l) (ha : arityE op = (ar.length : Int)) (b : Bool) :
    ((kindE K (.mk op m v ar)).2 = true → kindO K op m v l b = ((kindE K (.mk op m v ar)).1, b)) ∧ ((kindE K (.mk op m v ar)).2 = false → (kindO K op m v l b).2 = true) := by
  have hn := kindL_len K ar l hl
  rw [kindE, hl]
  dsimp only
  unfold kindO
  have two : ∀ o, arityE o = 2 → op = o → ∃ x y, l = [x, y] := by
    rintro o h rfl
    match l, (by omega : l.length = 2) with
    | [x, y], _ => exact ⟨x, y, rfl⟩
  have one : ∀ o, arityE o = 1 → op = o → ∃ x, l = [x] := by
    rintro o h rfl
    match l, (by omega : l.length = 1) with
    | [x], _ => exact ⟨x, rfl⟩
  by_cases h1 : op = 1
  · rw [if_pos h1, if_pos h1]; exact ⟨fun _ => rfl, fun h => by cases h⟩
  by_cases h2 : op = 2
  · rw [if_neg h1, if_neg h1, if_pos h2, if_pos h2]; exact ⟨fun _ => rfl, fun h => by cases h⟩
  by_cases h5 : op = 5
  · rw [if_neg h1, if_neg h1, if_neg h2, if_neg h2, if_pos h5, if_pos h5]; exact ⟨fun _ => rfl, fun h => by cases h⟩
  by_cases h6 : op = 6
  · obtain ⟨x, rfl⟩ := one 6 rfl h6
    simp only [if_neg h1, if_neg h2, if_neg h5, if_pos h6, fitK, List.all_cons, List.all_nil, Bool.and_true, g0, List.getElem?_cons_zero, Option.getD_some, pair_fit x 2 (by decide)]
    refine ⟨fun h => ?_, fun h => ?_⟩ <;> rw [h] <;> simp
  by_cases h18 : op = 18
  · obtain ⟨x, y, rfl⟩ := two 18 rfl h18
    simp only [if_neg h1, if_neg h2, if_neg h5, if_neg h6, if_pos h18, fitK, List.all_cons, List.all_nil, Bool.and_true, g0, List.getElem?_cons_zero, List.getElem?_cons_succ, Option.getD_some, pair_fit x 2 (by decide), pair_fit y 2 (by decide)]
    generalize (decide (x = 2) || decide (x = 0)) = p
    generalize (decide (y = 2) || decide (y = 0)) = q
    cases p <;> cases q <;> cases b <;> decide
  by_cases hc : 12 ≤ op ∧ op ≤ 17
  · simp only [if_neg h1, if_neg h2, if_neg h5, if_neg h6, if_neg h18, if_pos hc]
    refine ⟨fun h => ?_, fun h => ?_⟩
    · rw [show pairK (g0 l 0) (g0 l 1) = true from h]; simp
    · rw [show pairK (g0 l 0) (g0 l 1) = false from h]; simp
  by_cases h21 : op = 21
  · simp only [if_neg h1, if_neg h2, if_neg h5, if_neg h6, if_neg h18, if_neg hc, if_pos h21, fitK, List.all_cons, List.all_nil, Bool.and_true, pair_fit (g0 l 0) 1 (by decide)]
    refine ⟨fun h => ?_, fun h => ?_⟩
    · rw [Bool.and_eq_true] at h
      have h1 : pairK (g0 l 1) (g0 l 2) = true := h.1
      have h2 : (decide (g0 l 0 = 1) || decide (g0 l 0 = 0)) = true := h.2
      rw [h1, h2]
      simp only [Bool.not_true, Bool.or_false]; rfl
    · rw [Bool.and_eq_false_iff] at h
      rcases h with h | h
      · have h1 : pairK (g0 l 1) (g0 l 2) = false := h
        rw [h1]; simp
      · have h1 : (decide (g0 l 0 = 1) || decide (g0 l 0 = 0)) = false := h
        rw [h1]; simp
  · simp only [if_neg h1, if_neg h2, if_neg h5, if_neg h6, if_neg h18, if_neg hc, if_neg h21]
    refine ⟨fun h => ?_, fun h => ?_⟩ <;> rw [h] <;> simp
mutual
theorem kindF_E (K : List Int) : ∀ (e : Ex) (n : Nat) (b : Bool), e.fine n → ((kindE K e).2 = true → kindF K e b = ((kindE K e).1, b)) ∧ ((kindE K e).2 = false → (kindF K e b).2 = true)
  | .mk op m v ar, n, b, hf => by
    rw [Ex.fine] at hf
    obtain ⟨f1, f2, f3⟩ := hf
    have hL := kindFL_E K ar n b f3
    cases hl : kindL K ar with
    | none =>
      rw [hl] at hL
      have hE : kindE K (.mk op m v ar) = (0, false) := by rw [kindE, hl]
      rw [hE, kindF, show (kindFL K ar b).2 = true from hL]
      exact ⟨fun h => (by cases h), fun _ => kindO_true _ _ _ _ _⟩
    | some l =>
      rw [hl] at hL
      rw [kindF, show kindFL K ar b = (l, b) from hL]
      exact kindO_some hl f1 b
theorem kindFL_E (K : List Int) : ∀ (l : List Ex) (n : Nat) (b : Bool), fineL n l → match kindL K l with | some r => kindFL K l b = (r, b) | none => (kindFL K l b).2 = true
  | [], n, b, hf => rfl
  | e :: t, n, b, hf => by
    rw [fineL] at hf
    have he := kindF_E K e n b hf.1
    rw [kindL, kindFL]
    rcases hk : kindE K e with ⟨k, g⟩
    rw [hk] at he
    cases g with
    | false =>
      show (kindFL K t (kindF K e b).2).2 = true
      rw [he.2 rfl]
      exact kindFL_true K t
    | true =>
      rw [he.1 rfl]
      have ht := kindFL_E K t n b hf.2
      cases hl : kindL K t with
      | none => rw [hl] at ht; exact ht
      | some r =>
        rw [hl] at ht
        show (k :: (kindFL K t b).1, (kindFL K t b).2) = (k :: r, b)
        rw [show kindFL K t b = (r, b) from ht]
end
/- What is lost, by either text. -/
mutual
theorem lostE_or (n : Nat) : ∀ (e : Ex) (b : Bool), lostE n e b = (b || lostK n e.cols)
  | .mk op m v ar, b => by
    rw [lostE, lostL_or n ar b, Ex.cols, lost1, lostK, lostK, List.any_append]
    by_cases h : op = 1
    · rw [if_pos h]; simp [h]
      cases b <;> cases (colsOf ar).any (fun c => decide ((n : Int) ≤ c)) <;> simp
    · rw [if_neg h]; simp [h]
theorem lostL_or (n : Nat) : ∀ (l : List Ex) (b : Bool), lostL n l b = (b || lostK n (colsOf l))
  | [], b => by simp [lostL, colsOf, lostK]
  | e :: r, b => by
    rw [lostL, lostE_or n e b, lostL_or n r, colsOf]
    simp only [lostK, List.any_append, Bool.or_assoc]
end
theorem insC_mem {x c : Int} {L : List Int} (h : c ∈ insC x L) : c ∈ L ∨ c = x := by
  rw [insC] at h
  split at h
  · exact .inl h
  · rcases List.mem_append.1 h with h | h
    · exact .inl (List.mem_of_mem_take h)
    · rcases List.mem_cons.1 h with h | h
      · exact .inr h
      · exact .inl (List.mem_of_mem_drop h)
mutual
theorem colsE_mem : ∀ (e : Ex) (L : List Int) (c : Int), c ∈ colsE e L → c ∈ L ∨ c ∈ e.cols
  | .mk op m v ar, L, c, h => by
    rw [colsE] at h
    rw [Ex.cols]
    by_cases h1 : op = 1
    · rw [if_pos h1] at h ⊢
      rcases colsL_mem ar _ c h with h | h
      · rcases insC_mem h with h | h
        · exact .inl h
        · exact .inr (by simp [h])
      · exact .inr (List.mem_append_right _ h)
    · rw [if_neg h1] at h ⊢
      rcases colsL_mem ar _ c h with h | h
      · exact .inl h
      · exact .inr (by simpa using h)
theorem colsL_mem : ∀ (l : List Ex) (L : List Int) (c : Int), c ∈ colsKL l L → c ∈ L ∨ c ∈ colsOf l
  | [], L, c, h => .inl h
  | e :: r, L, c, h => by
    rw [colsKL] at h
    rw [colsOf]
    rcases colsL_mem r _ c h with h | h
    · rcases colsE_mem e L c h with h | h
      · exact .inl h
      · exact .inr (List.mem_append_left _ h)
    · exact .inr (List.mem_append_right _ h)
end
theorem lostK_cols (n : Nat) (e : Ex) : lostK n (colsE e []) = lostE n e false := by
  rw [lostE_or, Bool.false_or, lostK, lostK, Bool.eq_iff_iff, List.any_eq_true, List.any_eq_true]
  constructor
  · rintro ⟨c, h1, h2⟩
    rcases colsE_mem e [] c h1 with h | h
    · simp at h
    · exact ⟨c, h, h2⟩
  · rintro ⟨c, h1, h2⟩
    exact ⟨c, mem_colsE e [] c (.inr h1), h2⟩
end Go.Proofs.Ytnhmnfokbinplaa

namespace Go.Proofs.Ytnhmnfokbinplaa
open Go Go.RowKit
set_option maxRecDepth 100000
set_option linter.unusedSimpArgs false
set_option linter.unusedVariables false

def kH (b : Bool) (C : List (List PV)) : List AObj := [.cells [.fn 160 [.ref 0 0, .ref 1 0, .ref 2 0]], .cells [.p (.sl C)], .cells [.fn 159 [.ref 3 0]], .cells [.p (.bool b)]]
def KindA (K : List Int) (C : List (List PV)) (e : Ex) : Prop := ∀ (cells : List PV) (b : Bool), e.cells = cells → ∃ k b', kindF K e b = (k, b') ∧
  ACall Try.prog 160 [.p (.agg cells), .ref 0 0, .ref 1 0, .ref 2 0] (kH b C) fun r H' => r = .p (.int .i64 k) ∧ takeX H' 4 = kH b' C
theorem fit_ex (x y : Int) (b : Bool) : ∃ z b', mx x y = z ∧ (b || !pairK x y) = b' ∧ ACall Try.prog 159 [.p (.int .i64 x), .p (.int .i64 y), .ref 0 0] (badH b) fun r H' => r = .p (.int .i64 z) ∧ takeX H' 1 = badH b' :=
  ⟨_, _, rfl, rfl, fit_c x y b _ rfl⟩
theorem g0_take {L : List Int} {i : Nat} {k : Int} (h : L[i]? = some k) : g0 (L.take (i + 1)) i = k ∧ ∀ j, j ≠ i → g0 (L.take (i + 1)) j = g0 (L.take i) j := by
  refine ⟨?_, fun j hj => ?_⟩
  · rw [g0, List.getElem?_take, if_pos (by omega), h]; rfl
  · rw [g0, g0, List.getElem?_take, List.getElem?_take]
    by_cases h1 : j < i
    · rw [if_pos (by omega), if_pos h1]
    · rw [if_neg (by omega), if_neg h1]
theorem kindFL_step {K : List Int} {ar : List Ex} {i : Nat} {x : Ex} {b1 b2 bF : Bool} {k2 : Int} {L : List Int} (h : kindFL K (ar.drop i) b1 = (L.drop i, bF)) (hx : ar.drop i = x :: ar.drop (i + 1)) (hk : kindF K x b1 = (k2, b2)) :
    kindFL K (ar.drop (i + 1)) b2 = (L.drop (i + 1), bF) ∧ L[i]? = some k2 := by
  rw [hx, kindFL, hk] at h
  simp only [Prod.mk.injEq] at h
  have h1 : L[i]? = some k2 := by
    have := congrArg (fun l => l[0]?) h.1
    simpa using this.symm
  refine ⟨?_, h1⟩
  have h2 := congrArg List.tail h.1
  simp only [List.tail_cons, List.tail_drop] at h2
  rw [← h2, ← h.2]

theorem sd0 : (0 : Int) ≤ 0 ∧ (0 : Int) < ((3 : Nat) : Int) ∧ ¬ (1 : Nat) = 0 := by decide
theorem sd1 : (0 : Int) ≤ 1 ∧ (1 : Int) < ((3 : Nat) : Int) ∧ ¬ (1 : Nat) = 0 := by decide
theorem sd2 : (0 : Int) ≤ 2 ∧ (2 : Int) < ((3 : Nat) : Int) ∧ ¬ (1 : Nat) = 0 := by decide
set_option maxHeartbeats 8000000 in
theorem kindA_c (K : List Int) (C : List (List PV)) (hC : K.map i64c = C) (op m vk vn : Int) (vs : ByteArray) (ar : List Ex) (es : List (List PV)) (hes : ar.map Ex.cells = es) (hal : (ar.length : Int) = arityE op) (hm : op = 1 → 0 ≤ m ∧ m < K.length) (IH : ∀ x, x ∈ ar → KindA K C x) (b0 : Bool) (k : Int) (b : Bool) (hq : kindF K (.mk op m ⟨vk, vn, vs⟩ ar) b0 = (k, b)) :
    ACall Try.prog 160 [.p (.agg [.int .i64 op, .int .i64 m, .int .i64 vk, .int .i64 vn, .str vs, .sl es]), .ref 0 0, .ref 1 0, .ref 2 0] (kH b0 C) fun r H' => r = .p (.int .i64 k) ∧ takeX H' 4 = kH b C := by
  have hel : es.length = ar.length := by rw [← hes]; simp
  have ha3 : arityE op ≤ 3 := by unfold arityE; (repeat' split) <;> omega
  have ha4 : ar.length ≤ 3 := by omega
  have hal2 : ar.length = (arityE op).toNat ∧ 0 ≤ arityE op := by omega
  clear hal
  rw [kindF] at hq
  obtain ⟨L, bF, hL⟩ : ∃ L bF, kindFL K ar b0 = (L, bF) := ⟨_, _, rfl⟩
  rw [hL] at hq
  dsimp only at hq
  have hLl : ∀ (l : List Ex) (b : Bool), (kindFL K l b).1.length = l.length := by
    intro l
    induction l with
    | nil => intro b; rfl
    | cons e r ih => intro b; rw [kindFL]; simp [ih]
  have hLn : L.length = ar.length := by have := hLl ar b0; rw [hL] at this; exact this
  clear hLl
  have hm0 : decide (op = 1) = true → (0 ≤ m ∧ m < (K.length : Int)) := by simp only [decide_eq_true_eq]; exact hm
  have hmk : decide (op = 1) = true → ∀ y, K[m.toNat]? = some y → g0 K m.toNat = y := by intro _ y h; rw [g0, h]; rfl
  refine ACall.x (nt := 94) (res := [.tmp 5]) mixed tt_ok [] Try.func160 rfl rfl rfl c160 (Nat.le_of_ble_eq_true rfl) ?_
  intro cp cc lp Q' hcp hcc hlp hQ
  repeat' (first
    | (with_reducible refine Nm.mk ?_; intro z hz)
    | (with_reducible refine IfB.mk ?_ ?_ <;> (intro h; cases h))
    | (with_reducible refine Two.l ?_; refine Asm.mk ?_ ?_; focus (decide +kernel))
    | (with_reducible refine Two.r ?_)
    | (with_reducible refine Asm.mk ?_ ?_; focus (first | kernel_rfl | decide))
    | (with_reducible refine Asm.mk2 ?_ ?_)
    | ((fail_if_success (with_reducible first | refine hQ _ _ ?_ | refine Side.mk ?_ | refine isCP hcp ?_ | refine isCC hcc ?_ | refine isLP hlp ?_ | refine Ix.mk ?_ | refine SIx.mk ?_ | refine SEx.mk ?_ | refine EIx.mk ?_ | refine RIx.mk ?_ | show False | refine hR ?_ _ ?_ ?_ ?_ ?_ ?_ | refine hR2 ?_ _ ?_ ?_ ?_ ?_ ?_)); cbv))
  simp only [nc] at hz
  simp only [nc'] at hz
  have hzl := lenZ (n := ar.length) hel hz
  clear hz
  generalize z = zl at *
  refine loopT (ι := Int × (Int × Int × Int) × Bool) mixed tt_ok hcp hcc hlp [1, 2, 3, 4, 6, 11, 12] (fun p => [(13, .p (.int .i64 p.1))]) (fun p => [.cells [.fn 160 [.ref 0 0, .ref 1 0, .ref 2 0]], .cells [.p (.sl C)], .cells [.fn 159 [.ref 3 0]], .cells [.p (.bool p.2.2)], .cells [.p (.int .i64 op), .p (.int .i64 m), .p (.int .i64 vk), .p (.int .i64 vn), .p (.str vs), .p (.sl es)], .cells [.p (.int .i64 p.2.1.1), .p (.int .i64 p.2.1.2.1), .p (.int .i64 p.2.1.2.2)]])
    (fun p => Rng ar.length zl p.1 ∧ kindFL K (ar.drop p.1.toNat) p.2.2 = (L.drop p.1.toNat, bF) ∧ g0 (L.take p.1.toNat) 0 = p.2.1.1 ∧ g0 (L.take p.1.toNat) 1 = p.2.1.2.1 ∧ g0 (L.take p.1.toNat) 2 = p.2.1.2.2) (fun p => (zl - p.1).toNat) (0, (0, 0, 0), b0) 6 (fun _ => rfl)
    ⟨Rng.start hzl (by omega), hL, rfl, rfl, rfl⟩ ⟨rfl, trivial⟩ rfl ?_
  rintro R ⟨i, ⟨x0, x1, x2⟩, b1⟩ ⟨rg, hf, hx0, hx1, hx2⟩ hR
  replace rg : Rng ar.length zl i := rg
  replace hf : kindFL K (ar.drop i.toNat) b1 = (L.drop i.toNat, bF) := hf
  replace hx0 : g0 (L.take i.toNat) 0 = x0 := hx0
  replace hx1 : g0 (L.take i.toNat) 1 = x1 := hx1
  replace hx2 : g0 (L.take i.toNat) 2 = x2 := hx2
  have hpc : ∀ (op' m' vk' vn' : Int) (vs' : ByteArray) (ar' : List Ex) (es' : List (List PV)), ar[i.toNat]? = some (.mk op' m' ⟨vk', vn', vs'⟩ ar') → ar'.map Ex.cells = es' → ∃ k2 b2, kindF K (.mk op' m' ⟨vk', vn', vs'⟩ ar') b1 = (k2, b2) ∧
      ACall Try.prog 160 [.p (.agg [.int .i64 op', .int .i64 m', .int .i64 vk', .int .i64 vn', .str vs', .sl es']), .ref 0 0, .ref 1 0, .ref 2 0] (kH b1 C) fun r H' => r = .p (.int .i64 k2) ∧ takeX H' 4 = kH b2 C := by
    intro op' m' vk' vn' vs' ar' es' hx he
    exact IH _ (List.mem_of_getElem? hx) _ b1 (by rw [cells_mk, he])
  have h3i : decide (i < zl) = true → 0 ≤ i ∧ i < ((3 : Nat) : Int) ∧ ¬ (1 : Nat) = 0 := by intro h; have := rg.ltN h; have := rg.lo; omega
  have h3 : decide (i < zl) = true → ∀ v, 0 + i.toNat * 1 = v → v = 0 ∨ v = 1 ∨ v = 2 := by intro h; have := rg.ltN h; omega
  have hend : decide (i < zl) = false → bF = b1 ∧ g0 L 0 = x0 ∧ g0 L 1 = x1 ∧ g0 L 2 = x2 := by
    intro h
    rw [rg.end_ rfl h, kindFL] at hf
    rw [rg.take_ hLn h] at hx0 hx1 hx2
    exact ⟨by simp only [Prod.mk.injEq] at hf; exact hf.2.symm, hx0, hx1, hx2⟩
  obtain ⟨yA, bA, hyA, hbA, cA⟩ := fit_ex x0 2 b1
  obtain ⟨yB, bB, hyB, hbB, cB⟩ := fit_ex x1 2 bA
  obtain ⟨yC, bC, hyC, hbC, cC⟩ := fit_ex x0 x1 b1
  obtain ⟨yD, bD, hyD, hbD, cD⟩ := fit_ex x0 1 b1
  obtain ⟨yE, bE, hyE, hbE, cE⟩ := fit_ex x1 x2 bD
  repeat' (first
    | (with_reducible refine Nm.lit 0 (by with_unfolding_all rfl) ?_)
    | (with_reducible refine Nm.lit 1 (by with_unfolding_all rfl) ?_)
    | (with_reducible refine Nm.lit 2 (by with_unfolding_all rfl) ?_)
    | (with_reducible refine Nm.three (h3 (by assumption) _ rfl) ?_ ?_ ?_ <;> intro hoff)
    | (with_reducible refine Nm.mk ?_; intro z hz)
    | (with_reducible refine IfB.mk ?_ ?_ <;> (intro h; cases h))
    | (with_reducible refine Two.l ?_; refine Asm.mk ?_ ?_; focus (decide +kernel))
    | (with_reducible refine Two.r ?_)
    | (with_reducible refine Asm.mk ?_ ?_; focus (show (_ : Bool) = true; kernel_rfl))
    | (with_reducible refine isCP hcp ?_; first | (refine vP hcp (clean_c vk vn vs) ?_; intro v hv))
    | (with_reducible refine isCC hcc ?_; first | (refine vA hcc (clean_c vk vn vs) rfl ?_; intro v hv))
    | (with_reducible refine Ix.ex hes rg.lo (rg.lt (by assumption)) ?_; intro op' m' vk' vn' vs' ar' es' hx hes')
    | (with_reducible refine Ix.map hC i64c_len (by decide) (hm0 (by assumption)).1 (hm0 (by assumption)).2 ?_; intro xk hxk)
    | (with_reducible refine isCC hcc ?_; obtain ⟨k2, b2, hk2, hcall⟩ := hpc _ _ _ _ _ _ _ hx hes'; refine frameK (H1 := kH b2 C) hcc [0, 1, 2, 3] hcall rfl rfl rfl rfl rfl rfl rfl ?_)
    | (with_reducible refine isCC hcc ?_; first | refine frameK (H1 := badH bA) hcc [3] cA rfl rfl rfl rfl rfl rfl rfl ?_ | refine frameK (H1 := badH bB) hcc [3] cB rfl rfl rfl rfl rfl rfl rfl ?_ | refine frameK (H1 := badH bC) hcc [3] cC rfl rfl rfl rfl rfl rfl rfl ?_ | refine frameK (H1 := badH bD) hcc [3] cD rfl rfl rfl rfl rfl rfl rfl ?_ | refine frameK (H1 := badH bE) hcc [3] cE rfl rfl rfl rfl rfl rfl rfl ?_)
    | (with_reducible refine Asm.mk2 ?_ ?_)
    | ((fail_if_success (with_reducible first | refine hQ _ _ ?_ | refine Side.mk ?_ | refine isCP hcp ?_ | refine isCC hcc ?_ | refine isLP hlp ?_ | refine Ix.mk ?_ | refine SIx.mk ?_ | refine SEx.mk ?_ | refine EIx.mk ?_ | refine RIx.mk ?_ | show False | refine hR ?_ _ ?_ ?_ ?_ ?_ ?_ | refine hR2 ?_ _ ?_ ?_ ?_ ?_ ?_)); cbv))

  all_goals (try (refine Side.mk ?_; first | exact sd0 | exact sd1 | exact sd2 | exact h3i (by assumption)))
  · have hlt : decide (i < zl) = true := by assumption
    have hi : i.toNat = 0 := by omega
    obtain ⟨s1, s2⟩ := kindFL_step (i := i.toNat) hf (by rw [← rg.toNat]; exact rg.step hx) hk2
    have gt := g0_take s2
    rw [rg.wrap hlt] at hz
    rw [hi] at gt hx0 hx1 hx2 s1 s2
    refine hR (i + 1, (k2, x1, x2), b2) _ ⟨rg.next hlt, by rw [rg.toNat, hi]; exact s1, ?_, ?_, ?_⟩ (rg.less hlt) ⟨hz ▸ rfl, trivial⟩ ⟨rfl, rfl, rfl, rfl, rfl, rfl, rfl, trivial⟩ rfl
    · show g0 (L.take (i + 1).toNat) 0 = _
      rw [rg.toNat, hi]; first | exact gt.1 | (rw [gt.2 0 (by decide)]; exact hx0)
    · show g0 (L.take (i + 1).toNat) 1 = _
      rw [rg.toNat, hi]; first | exact gt.1 | (rw [gt.2 1 (by decide)]; exact hx1)
    · show g0 (L.take (i + 1).toNat) 2 = _
      rw [rg.toNat, hi]; first | exact gt.1 | (rw [gt.2 2 (by decide)]; exact hx2)
  · have hlt : decide (i < zl) = true := by assumption
    have hi : i.toNat = 1 := by omega
    obtain ⟨s1, s2⟩ := kindFL_step (i := i.toNat) hf (by rw [← rg.toNat]; exact rg.step hx) hk2
    have gt := g0_take s2
    rw [rg.wrap hlt] at hz
    rw [hi] at gt hx0 hx1 hx2 s1 s2
    refine hR (i + 1, (x0, k2, x2), b2) _ ⟨rg.next hlt, by rw [rg.toNat, hi]; exact s1, ?_, ?_, ?_⟩ (rg.less hlt) ⟨hz ▸ rfl, trivial⟩ ⟨rfl, rfl, rfl, rfl, rfl, rfl, rfl, trivial⟩ rfl
    · show g0 (L.take (i + 1).toNat) 0 = _
      rw [rg.toNat, hi]; first | exact gt.1 | (rw [gt.2 0 (by decide)]; exact hx0)
    · show g0 (L.take (i + 1).toNat) 1 = _
      rw [rg.toNat, hi]; first | exact gt.1 | (rw [gt.2 1 (by decide)]; exact hx1)
    · show g0 (L.take (i + 1).toNat) 2 = _
      rw [rg.toNat, hi]; first | exact gt.1 | (rw [gt.2 2 (by decide)]; exact hx2)
  · have hlt : decide (i < zl) = true := by assumption
    have hi : i.toNat = 2 := by omega
    obtain ⟨s1, s2⟩ := kindFL_step (i := i.toNat) hf (by rw [← rg.toNat]; exact rg.step hx) hk2
    have gt := g0_take s2
    rw [rg.wrap hlt] at hz
    rw [hi] at gt hx0 hx1 hx2 s1 s2
    refine hR (i + 1, (x0, x1, k2), b2) _ ⟨rg.next hlt, by rw [rg.toNat, hi]; exact s1, ?_, ?_, ?_⟩ (rg.less hlt) ⟨hz ▸ rfl, trivial⟩ ⟨rfl, rfl, rfl, rfl, rfl, rfl, rfl, trivial⟩ rfl
    · show g0 (L.take (i + 1).toNat) 0 = _
      rw [rg.toNat, hi]; first | exact gt.1 | (rw [gt.2 0 (by decide)]; exact hx0)
    · show g0 (L.take (i + 1).toNat) 1 = _
      rw [rg.toNat, hi]; first | exact gt.1 | (rw [gt.2 1 (by decide)]; exact hx1)
    · show g0 (L.take (i + 1).toNat) 2 = _
      rw [rg.toNat, hi]; first | exact gt.1 | (rw [gt.2 2 (by decide)]; exact hx2)
  rotate_right
  · obtain ⟨e1, e2, e3, e4⟩ := hend (by assumption)
    have hq2 : (1, bF || !fitK 1 L) = (k, b) := by
      rw [← hq, kindO]
      clear hQ hR hcp hcc hlp hpc IH hend hz
      simp only [decide_eq_true_eq, decide_eq_false_iff_not] at *
      repeat rw [if_neg (by omega)]
    rw [e1] at hq2
    simp only [Prod.mk.injEq] at hq2
    obtain ⟨q1, q2⟩ := hq2
    clear hR hpc h3 h3i cA cB cC cD cE hbA hbB hbC hbD hbE hyA hyB hyC hyD hyE
    simp only [nc] at hz
    simp only [nc'] at hz
    have hyl := lenZ (n := ar.length) hel hz
    clear hz
    rename Int => yl
    refine loopT (ι := Int × Bool) mixed tt_ok hcp hcc hlp [1, 2, 3, 4, 6, 27, 28] (fun p => [(29, .p (.int .i64 p.1))]) (fun p => [.cells [.fn 160 [.ref 0 0, .ref 1 0, .ref 2 0]], .cells [.p (.sl C)], .cells [.fn 159 [.ref 3 0]], .cells [.p (.bool p.2)], .cells [.p (.int .i64 op), .p (.int .i64 m), .p (.int .i64 vk), .p (.int .i64 vn), .p (.str vs), .p (.sl es)], .cells [.p (.int .i64 x0), .p (.int .i64 x1), .p (.int .i64 x2)]])
      (fun p => Rng ar.length yl p.1 ∧ (b1 || !fitK 1 (L.take p.1.toNat)) = p.2) (fun p => (yl - p.1).toNat) (0, b1) 6 (fun _ => rfl)
      ⟨Rng.start hyl (by omega), by show (b1 || !fitK 1 []) = b1; simp [fitK]⟩ ⟨rfl, trivial⟩ rfl ?_
    rintro R ⟨j, b2⟩ ⟨rj, hb⟩ hR
    replace rj : Rng ar.length yl j := rj
    replace hb : (b1 || !fitK 1 (L.take j.toNat)) = b2 := hb
    have h3i : decide (j < yl) = true → 0 ≤ j ∧ j < ((3 : Nat) : Int) ∧ ¬ (1 : Nat) = 0 := by intro h; have := rj.ltN h; have := rj.lo; omega
    have h3 : decide (j < yl) = true → ∀ v, 0 + j.toNat * 1 = v → v = 0 ∨ v = 1 ∨ v = 2 := by intro h; have := rj.ltN h; omega
    obtain ⟨yA, bA, hyA, hbA, cA⟩ := fit_ex x0 1 b2
    obtain ⟨yB, bB, hyB, hbB, cB⟩ := fit_ex x1 1 b2
    obtain ⟨yC, bC, hyC, hbC, cC⟩ := fit_ex x2 1 b2
    have hstep : ∀ (n : Nat) (x : Int) (b3 : Bool), j.toNat = n → decide (j < yl) = true → g0 L n = x → (b2 || !pairK x 1) = b3 → (b1 || !fitK 1 (L.take (j + 1).toNat)) = b3 := by
      rintro n x b3 hj hlt hx hb3
      have hl : j.toNat < L.length := by have := rj.ltN hlt; omega
      have hxx : L[j.toNat]? = some x := by rw [← hx, g0, ← hj, List.getElem?_eq_getElem hl]; rfl
      rw [rj.take hxx, ← hb3, ← hb, pair_fit x 1 (by decide)]
      simp only [fitK, List.all_append, List.all_cons, List.all_nil, Bool.and_true]
      cases b1 <;> cases (L.take j.toNat).all (fun k => decide (k = 1) || decide (k = 0)) <;> cases (decide (x = 1) || decide (x = 0)) <;> rfl
    have hfin : decide (j < yl) = false → b2 = b := by
      intro h
      rw [rj.take_ hLn h] at hb
      rw [← hb]; exact q2
    repeat' (first
      | (with_reducible refine Nm.lit 0 (by with_unfolding_all rfl) ?_)
      | (with_reducible refine Nm.lit 1 (by with_unfolding_all rfl) ?_)
      | (with_reducible refine Nm.lit 2 (by with_unfolding_all rfl) ?_)
      | (with_reducible refine Nm.three (h3 (by assumption) _ rfl) ?_ ?_ ?_ <;> intro hoff)
      | (with_reducible refine Nm.mk ?_; intro z hz)
      | (with_reducible refine IfB.mk ?_ ?_ <;> (intro h; cases h))
      | (with_reducible refine Two.l ?_; refine Asm.mk ?_ ?_; focus (decide +kernel))
      | (with_reducible refine Two.r ?_)
      | (with_reducible refine Asm.mk ?_ ?_; focus (show (_ : Bool) = true; kernel_rfl))
      | (with_reducible refine isCC hcc ?_; first | refine frameK (H1 := badH bA) hcc [3] cA rfl rfl rfl rfl rfl rfl rfl ?_ | refine frameK (H1 := badH bB) hcc [3] cB rfl rfl rfl rfl rfl rfl rfl ?_ | refine frameK (H1 := badH bC) hcc [3] cC rfl rfl rfl rfl rfl rfl rfl ?_)
      | (with_reducible refine Asm.mk2 ?_ ?_)
      | ((fail_if_success (with_reducible first | refine hQ _ _ ?_ | refine Side.mk ?_ | refine isCP hcp ?_ | refine isCC hcc ?_ | refine isLP hlp ?_ | refine Ix.mk ?_ | refine SIx.mk ?_ | refine SEx.mk ?_ | refine EIx.mk ?_ | refine RIx.mk ?_ | show False | refine hR ?_ _ ?_ ?_ ?_ ?_ ?_ | refine hR2 ?_ _ ?_ ?_ ?_ ?_ ?_)); cbv))
    all_goals (try (refine Side.mk ?_; first | exact sd0 | exact sd1 | exact sd2 | exact h3i (by assumption)))
    · have hlt : decide (j < yl) = true := by assumption
      rw [rj.wrap hlt] at hz
      exact hR (j + 1, _) _ ⟨rj.next hlt, hstep 0 _ _ (by omega) hlt e2 hbA⟩ (rj.less hlt) ⟨hz ▸ rfl, trivial⟩ ⟨rfl, rfl, rfl, rfl, rfl, rfl, rfl, trivial⟩ rfl
    · have hlt : decide (j < yl) = true := by assumption
      rw [rj.wrap hlt] at hz
      exact hR (j + 1, _) _ ⟨rj.next hlt, hstep 1 _ _ (by omega) hlt e3 hbB⟩ (rj.less hlt) ⟨hz ▸ rfl, trivial⟩ ⟨rfl, rfl, rfl, rfl, rfl, rfl, rfl, trivial⟩ rfl
    · have hlt : decide (j < yl) = true := by assumption
      rw [rj.wrap hlt] at hz
      exact hR (j + 1, _) _ ⟨rj.next hlt, hstep 2 _ _ (by omega) hlt e4 hbC⟩ (rj.less hlt) ⟨hz ▸ rfl, trivial⟩ ⟨rfl, rfl, rfl, rfl, rfl, rfl, rfl, trivial⟩ rfl
    · have hbb := hfin (by assumption)
      subst hbb
      refine hQ _ _ ⟨?_, rfl⟩
      rw [← q1]; rfl
  all_goals
    (obtain ⟨e1, e2, e3, e4⟩ := hend (by assumption)
     have hq2 := hq
     rw [kindO] at hq2
     have hxk' : ∀ xk, decide (op = 1) = true → K[m.toNat]? = some xk → g0 K m.toNat = xk := fun xk h1 h2 => hmk h1 _ h2
     clear hR hcp hcc hlp hpc IH hend hmk hq hL h3 h3i cA cB cC cD cE hf hx0 hx1 hx2
     simp only [e1, e2, e3, e4] at hq2
     simp only [hbA, hbC, hbD] at hq2
     simp only [hbB, hbE] at hq2
     simp only [decide_eq_true_eq, decide_eq_false_iff_not] at *
     repeat (first | rw [if_pos (by omega)] at hq2 | rw [if_neg (by omega)] at hq2)
     simp only [Prod.mk.injEq] at hq2
     obtain ⟨q1, q2⟩ := hq2
     first
       | (refine hQ _ _ ⟨?_, ?_⟩
          · first
              | (rw [← q1]; rfl)
              | (rw [← q1, hyE]; rfl)
              | (rw [← q1, hxk' _ (by assumption) (by assumption)]; rfl)
              | (rename_i hv _; rw [← q1, hv]; rfl)
              | (rw [← q1, hv]; rfl)
          · rw [← q2]; rfl))
end Go.Proofs.Ytnhmnfokbinplaa

namespace Go.Proofs.Ytnhmnfokbinplaa
open Go Go.RowKit
set_option maxRecDepth 100000
set_option linter.unusedSimpArgs false
set_option linter.unusedVariables false

theorem kindA_all (K : List Int) (C : List (List PV)) (hC : K.map i64c = C) : ∀ (n : Nat) (e : Ex), e.sz ≤ n → e.fine K.length → KindA K C e
  | 0, .mk op m v ar, h, _ => by simp [Ex.sz] at h
  | n + 1, .mk op m ⟨vk, vn, vs⟩ ar, h, hf => by
    intro cells b he
    rw [cells_mk] at he
    subst he
    rw [Ex.fine] at hf
    obtain ⟨f1, f2, f3⟩ := hf
    refine ⟨_, _, rfl, kindA_c K C hC op m vk vn vs ar _ rfl f1.symm f2 (fun x hx => kindA_all K C hC n x ?_ (fine_mem f3 hx)) b _ _ rfl⟩
    have := sz_mem hx
    simp only [Ex.sz] at h; omega

set_option maxHeartbeats 4000000 in
theorem ekind_c (K : List Int) (C : List (List PV)) (hC : K.map i64c = C) (op n vk vn : Int) (vs : ByteArray) (ar : List Ex) (es : List (List PV)) (hes : ar.map Ex.cells = es) (hw : (Ex.mk op n ⟨vk, vn, vs⟩ ar).wide) :
    PCall Try.prog 110 [.agg [.int .i64 op, .int .i64 n, .int .i64 vk, .int .i64 vn, .str vs, .sl es], .sl C] fun r => r = [.int .i64 (kindM K (.mk op n ⟨vk, vn, vs⟩ ar)).1, .int .i64 (kindM K (.mk op n ⟨vk, vn, vs⟩ ar)).2] := by
  refine PCall.know c110 fun hkn => ?_
  have k1 : C.length ≤ maxLen := hkn (.sl C) (by simp)
  clear hkn
  rw [maxLen_eq] at k1
  have b1 : C.length = K.length := by rw [← hC]; simp
  have hbc := ebuilt_c op n vk vn vs ar es hes
  obtain ⟨e, he⟩ : ∃ e, Ex.mk op n ⟨vk, vn, vs⟩ ar = e := ⟨_, rfl⟩
  have hce : e.cells = [.int .i64 op, .int .i64 n, .int .i64 vk, .int .i64 vn, .str vs, .sl es] := by rw [← he, cells_mk, hes]
  obtain ⟨bl, hbl, hlost⟩ := each_all C _ e (Nat.le_refl _) (by rw [← he]; exact hw) _ false hce
  rw [b1] at hbl
  have hkc : builtM e = true → bl = false → ∃ k b, kindF K e false = (k, b) ∧ ACall Try.prog 160 [.p (.agg [.int .i64 op, .int .i64 n, .int .i64 vk, .int .i64 vn, .str vs, .sl es]), .ref 0 0, .ref 1 0, .ref 2 0] (kH false C) fun r H' => r = .p (.int .i64 k) ∧ takeX H' 4 = kH b C := by
    intro h1 h2
    exact kindA_all K C hC _ e (Nat.le_refl _) (kind_fine h1 (by rw [lostK_cols, hbl, h2])) _ false hce
  have hkf : builtM e = true → bl = false → ((kindE K e).2 = true → kindF K e false = ((kindE K e).1, false)) ∧ ((kindE K e).2 = false → (kindF K e false).2 = true) := by
    intro h1 h2
    exact kindF_E K e _ false (kind_fine h1 (by rw [lostK_cols, hbl, h2]))
  rw [he] at hbc ⊢
  obtain ⟨kr, er, hkr⟩ : ∃ a b, kindM K e = (a, b) := ⟨_, _, rfl⟩
  rw [hkr]
  obtain ⟨bt, hbt⟩ : ∃ b, builtM e = b := ⟨_, rfl⟩
  rw [hbt] at hbc hkc hkf
  rw [kindM, hbt, lostK_cols, hbl] at hkr
  have hbn : ∀ {z : Bool}, bt = z → (!z) = false → bt = true := by rintro z rfl h; simpa using h
  have hbf : ∀ {z : Bool}, bt = z → (!z) = true → bt = false := by rintro z rfl h; simpa using h
  refine PCall.x (nt := 40) (res := [.tmp 4, .tmp 5]) mixed tt_ok [] Try.func110 rfl rfl rfl c110 (Nat.le_of_ble_eq_true rfl) ?_
  intro cp cc lp Q' hcp hcc hlp hQ
  repeat' (first
    | (with_reducible refine Nm.mk ?_; intro z hz)
    | (with_reducible refine IfB.mk ?_ ?_ <;> (intro h; cases h))
    | (with_reducible refine Two.l ?_; refine Asm.mk ?_ ?_; focus (decide +kernel))
    | (with_reducible refine Two.r ?_)
    | (with_reducible refine Asm.mk ?_ ?_; focus kernel_rfl)
    | (with_reducible refine isCP hcp ?_; first | (refine bP hcp (hbc) ?_; intro z hz))
    | (with_reducible refine isCC hcc ?_; first | (refine bA hcc (hbc) rfl ?_; intro z hz))
    | (with_reducible refine Asm.mk2 ?_ ?_)
    | ((fail_if_success (with_reducible first | refine hQ _ ?_ | refine Side.mk ?_ | refine isCP hcp ?_ | refine isCC hcc ?_ | refine isLP hlp ?_ | refine Ix.mk ?_ | refine SIx.mk ?_ | refine SEx.mk ?_ | refine EIx.mk ?_ | refine RIx.mk ?_ | show False | refine hR ?_ _ ?_ ?_ ?_ ?_ ?_ | refine hR2 ?_ _ ?_ ?_ ?_ ?_ ?_)); cbv))
  · have hb := hbf (by assumption) (by assumption)
    rw [if_pos hb] at hkr
    simp only [Prod.mk.injEq] at hkr
    refine hQ _ ?_
    rw [← hkr.1, ← hkr.2]
  · have hb := hbn (by assumption) (by assumption)
    rw [if_neg (by rw [hb]; decide)] at hkr
    replace hkc := hkc hb
    replace hkf := hkf hb
    clear hbn hbf hbc
    simp only [nc] at hz
    simp only [nc'] at hz
    have hzl := lenZ (n := K.length) b1 hz
    clear hz
    generalize z = zl at *
    obtain ⟨q, hq⟩ : ∃ q, badK K = q := ⟨_, rfl⟩
    rw [hq] at hkr
    refine loopK (ι := Int) mixed tt_ok hcp hcc hlp [2, 3, 16, 17] (fun i => [(18, .p (.int .i64 i))]) (fun i => (0 ≤ i ∧ i ≤ zl) ∧ badK (K.drop i.toNat) = q) (fun i => (zl - i).toNat) 0 (fun _ => rfl) ⟨⟨by omega, by omega⟩, hq⟩ ⟨rfl, trivial⟩ ?_
    rintro R i ⟨⟨hi0, hi1⟩, hf⟩ hR
    have hk : decide (i < zl) = true → i < K.length := by simp only [decide_eq_true_eq]; omega
    have hki : decide (i < zl) = true → IntKind.i64.wrap (i + 1) = i + 1 ∧ i + 1 ≤ zl ∧ (zl - (i + 1)).toNat < (zl - i).toNat := by simp only [decide_eq_true_eq]; intro h; exact ⟨wrap_in (by omega), by omega, by omega⟩
    have hdr : ∀ x, K[i.toNat]? = some x → K.drop i.toNat = x :: K.drop (i + 1).toNat := by
      intro x hx
      rw [List.drop_eq_getElem_cons (List.getElem?_eq_some_iff.1 hx).1, (List.getElem?_eq_some_iff.1 hx).2, show (i + 1).toNat = i.toNat + 1 by omega]
    have hbad : ∀ {x : Int}, K[i.toNat]? = some x → (!decide (x = 1)) = true → (!decide (x = 2)) = true → q = true := by
      intro x hx h1 h2
      rw [← hf, hdr x hx, badK, List.any_cons, h1, h2]; rfl
    have hgood : ∀ {x : Int}, K[i.toNat]? = some x → ((!decide (x = 1)) = false ∨ (!decide (x = 2)) = false) → badK (K.drop (i + 1).toNat) = q := by
      intro x hx h
      rw [← hf, hdr x hx, badK, badK, List.any_cons]
      rcases h with h | h <;> rw [h] <;> simp
    have hout : decide (i < zl) = false → q = false := by
      simp only [decide_eq_false_iff_not]; intro h
      rw [← hf, List.drop_eq_nil_of_le (by omega)]; rfl
    obtain ⟨kk, bb, hkb, hkcall⟩ : ∃ k b, kindF K e false = (k, b) ∧ (bl = false → ACall Try.prog 160 [.p (.agg [.int .i64 op, .int .i64 n, .int .i64 vk, .int .i64 vn, .str vs, .sl es]), .ref 0 0, .ref 1 0, .ref 2 0] (kH false C) fun r H' => r = .p (.int .i64 k) ∧ takeX H' 4 = kH b C) := by
      cases hb2 : bl with
      | true => exact ⟨_, _, rfl, fun h => by cases h⟩
      | false =>
        obtain ⟨k, b, h1, h2⟩ := hkc hb2
        exact ⟨k, b, h1, fun _ => h2⟩
    rw [hkb] at hkf
    clear hkc
    repeat' (first
      | (with_reducible refine Nm.mk ?_; intro z hz)
      | (with_reducible refine IfB.mk ?_ ?_ <;> (intro h; cases h))
      | (with_reducible refine Two.l ?_; refine Asm.mk ?_ ?_; focus (decide +kernel))
      | (with_reducible refine Two.r ?_)
      | (with_reducible refine Asm.mk ?_ ?_; focus kernel_rfl)
      | (with_reducible refine Ix.map hC i64c_len (by decide) hi0 (hk (by assumption)) ?_; intro x hx)
      | (with_reducible refine isCC hcc ?_; refine frameK (H1 := lostH bl C) hcc [2, 1] hlost rfl rfl rfl rfl rfl rfl rfl ?_)
      | (with_reducible refine isCC hcc ?_; refine frameK (H1 := kH bb C) hcc [4, 1, 5, 3] (hkcall rfl) rfl rfl rfl rfl rfl rfl rfl ?_)
      | (with_reducible refine Asm.mk2 ?_ ?_)
      | ((fail_if_success (with_reducible first | refine hQ _ ?_ | refine Side.mk ?_ | refine isCP hcp ?_ | refine isCC hcc ?_ | refine isLP hlp ?_ | refine Ix.mk ?_ | refine SIx.mk ?_ | refine SEx.mk ?_ | refine EIx.mk ?_ | refine RIx.mk ?_ | show False | refine hR ?_ _ ?_ ?_ ?_ ?_ ?_ | refine hR2 ?_ _ ?_ ?_ ?_ ?_ ?_)); cbv))
    · rw [hbad hx (by assumption) (by assumption), if_pos rfl] at hkr
      simp only [Prod.mk.injEq] at hkr
      refine hQ _ ?_
      rw [← hkr.1, ← hkr.2]
    · obtain ⟨e1, e2, e3⟩ := hki (by assumption)
      rw [e1] at hz
      exact hR (i + 1) _ ⟨⟨by omega, e2⟩, hgood hx (.inr (by assumption))⟩ e3 ⟨hz ▸ rfl, trivial⟩ ⟨rfl, rfl, rfl, rfl, trivial⟩ rfl
    · obtain ⟨e1, e2, e3⟩ := hki (by assumption)
      rw [e1] at hz
      exact hR (i + 1) _ ⟨⟨by omega, e2⟩, hgood hx (.inl (by assumption))⟩ e3 ⟨hz ▸ rfl, trivial⟩ ⟨rfl, rfl, rfl, rfl, trivial⟩ rfl
    · rw [hout (by assumption), if_neg (by decide), if_pos rfl] at hkr
      simp only [Prod.mk.injEq] at hkr
      refine hQ _ ?_
      rw [← hkr.1, ← hkr.2]
    · obtain ⟨f1, f2⟩ := hkf rfl
      have g : (kindE K e).2 = false := by
        cases h : (kindE K e).2 with
        | false => rfl
        | true => have := congrArg Prod.snd (f1 h); cases this
      rw [hout (by assumption), if_neg (by decide), if_neg (by decide), if_pos g] at hkr
      simp only [Prod.mk.injEq] at hkr
      refine hQ _ ?_
      rw [← hkr.1, ← hkr.2]
    · obtain ⟨f1, f2⟩ := hkf rfl
      have g : (kindE K e).2 = true := by
        cases h : (kindE K e).2 with
        | true => rfl
        | false => cases f2 h
      have g1 := congrArg Prod.fst (f1 g)
      rw [hout (by assumption), if_neg (by decide), if_neg (by decide), if_neg (by rw [g]; decide)] at hkr
      simp only [Prod.mk.injEq] at hkr
      refine hQ _ ?_
      rw [← hkr.1, ← hkr.2, ← g1]
end Go.Proofs.Ytnhmnfokbinplaa

namespace Go.Proofs.Ytnhmnfokbinplaa
open Go Go.RowKit
set_option maxRecDepth 100000
set_option linter.unusedSimpArgs false
set_option linter.unusedVariables false

/-- A row of one's own is frozen when it is handed to a callee as its second argument. -/
theorem frzCC2 {P : Program} {cc : FuncId → List AV → List AObj → (AV → List AObj → Prop) → Prop} (hcc : ACall P = cc) {f : FuncId} {p : PV} {H : List AObj} {K : AV → List AObj → Prop} (id g sz lo n : Nat) {L L' : List (List PV)} (hid : nth H id = some (.vec g L sz)) (hs : sz ≠ 0) (hn : lo + n ≤ L.length) (hL : (L.drop lo).take n = L')
    (h : cc f [.p p, .p (.sl L')] (setX H id .gone) K) : cc f [.p p, .vec id g sz lo n] H K := by
  rw [nth_eq] at hid
  have hlt := (List.getElem?_eq_some_iff.1 hid).1
  rw [setX_eq _ _ _ (by omega), if_pos hlt] at h
  subst hcc
  subst hL
  refine ⟨fun B G w vals wr rv => ?_⟩
  obtain ⟨G', e, wr', _, f1⟩ := wr.vecFreeze hid hs
  refine (h.run B G' w vals wr' ⟨rv.1, fun i x v hx hv => ?_⟩).mono ?_
  · match i, hx with
    | 0, hx => simp at hx; subst hx; exact (rv.2 0 _ v rfl hv).mono e
    | 1, hx => simp at hx; subst hx; exact f1 lo n v hn (rv.2 1 _ v rfl hv)
    | i + 2, hx => simp at hx
  rintro en w' ⟨v, r, G2, H2, e1, e2, e3, e4, e5⟩
  exact ⟨v, r, G2, H2, e1, e2, e.trans e3, e4, e5⟩

def valsC (v : Vec) : List PV := [.sl ((valuesM v).map Val.cells)]
theorem okEs_valsC (l : List Vec) : okEs 1 (l.map valsC) = true := by
  simp only [okEs, List.all_map, List.all_eq_true]
  intro e _
  simp [valsC, PV.one]
theorem okEs_i64 (l : List Int) : okEs 1 (l.map i64c) = true := by
  simp only [okEs, List.all_map, List.all_eq_true]
  intro e _
  simp [i64c, PV.one]

theorem colF_c (cols : List Vec) (CL : List (List PV)) (hCL : cols.map valsC = CL) (N : Int) (hok : okCols cols N = true) (i : Int) (hi0 : 0 ≤ i) (hiN : i < N) (n : Int) (h0 : 0 ≤ n) (hn : n < cols.length) :
    PCall Try.prog 133 [.int .i64 n, .ip [.sl CL], .ip [.int .i64 i]] fun r => r = [(colF cols i.toNat n).enc] := by
  have hlt : n.toNat < cols.length := by omega
  have hv : cols[n.toNat]? = some cols[n.toNat] := List.getElem?_eq_getElem hlt
  generalize cols[n.toNat] = v at hv
  have hg := List.all_eq_true.1 hok v (List.mem_of_getElem? hv)
  rw [Bool.and_eq_true, decide_eq_true_eq] at hg
  obtain ⟨L, hL⟩ : ∃ L, (valuesM v).map Val.cells = L := ⟨_, rfl⟩
  have h1 : CL[n.toNat]? = some [.sl L] := by rw [← hCL, List.getElem?_map, hv, ← hL]; rfl
  obtain ⟨⟨xk, xn, xs⟩, hx⟩ : ∃ x, atV v.kind v.null v.ns v.ss i.toNat = x := ⟨_, rfl⟩
  have h2 : L[i.toNat]? = some [.int .i64 xk, .int .i64 xn, .str xs] := by
    rw [← hL, valuesM, if_pos hg.1, List.getElem?_map, List.getElem?_map, List.getElem?_range (by omega)]
    simp only [Option.map_some, hx]; rfl
  have hc : colF cols i.toNat n = ⟨xk, xn, xs⟩ := by rw [colF, hv]; exact hx
  rw [hc]
  clear hc hx hg hok hCL hL hv hlt hn hiN
  refine PCall.x (nt := 12) (res := [.cell 4 25]) mixed tt_ok [] Try.func133 rfl rfl rfl c133 (Nat.le_of_ble_eq_true rfl) ?_
  intro cp cc lp Q' hcp hcc hlp hQ
  repeat' (first
    | (with_reducible refine Nm.mk ?_; intro z hz)
    | (with_reducible refine IfB.mk ?_ ?_ <;> (intro h; cases h))
    | (with_reducible refine Two.l ?_; refine Asm.mk ?_ ?_; focus (decide +kernel))
    | (with_reducible refine Two.r ?_)
    | (with_reducible refine Asm.mk ?_ ?_; focus kernel_rfl)
    | (with_reducible refine Ix.giveK h0 h1 rfl (by decide) ?_)
    | (with_reducible refine Ix.giveK hi0 h2 rfl (by decide) ?_)
    | (with_reducible refine Asm.mk2 ?_ ?_)
    | ((fail_if_success (with_reducible first | refine hQ _ ?_ | refine Side.mk ?_ | refine isCP hcp ?_ | refine isCC hcc ?_ | refine isLP hlp ?_ | refine Ix.mk ?_ | refine SIx.mk ?_ | refine SEx.mk ?_ | refine EIx.mk ?_ | refine RIx.mk ?_ | show False | refine hR ?_ _ ?_ ?_ ?_ ?_ ?_ | refine hR2 ?_ _ ?_ ?_ ?_ ?_ ?_)); cbv))
  all_goals (refine hQ _ ?_; clear hQ hcp hcc hlp; subst_vars; simp_all [Val.enc, Val.cells])

/-- The values so far, and nulls for the others. -/
def rowO (e : Ex) (cols : List Vec) (n i : Nat) : List (List PV) := (overVals e cols i ++ List.replicate (n - i) Val.zero).map Val.cells
theorem rowO_len (e : Ex) (cols : List Vec) {n i : Nat} (h : i ≤ n) : (rowO e cols n i).length = n := by
  simp [rowO, overVals_len]; omega
theorem rowO_set (e : Ex) (cols : List Vec) {n i : Nat} (h : i < n) : (rowO e cols n i).set i (evalE (colF cols i) e).cells = rowO e cols n (i + 1) := by
  unfold rowO
  rw [overVals_step, ← List.map_set]
  congr 1
  rw [List.set_append_right _ _ (by rw [overVals_len]; exact Nat.le_refl _), overVals_len, Nat.sub_self, show n - i = (n - (i + 1)) + 1 by omega, List.replicate_succ, List.set_cons_zero]
  simp
theorem rowO_0 (e : Ex) (cols : List Vec) (n : Nat) : rowO e cols n 0 = List.replicate n Val.zero.cells := by
  simp [rowO, overVals]
theorem rowO_end (e : Ex) (cols : List Vec) (n : Nat) : rowO e cols n n = (overVals e cols n).map Val.cells := by
  simp [rowO]
end Go.Proofs.Ytnhmnfokbinplaa

namespace Go.Proofs.Ytnhmnfokbinplaa
open Go Go.RowKit
set_option maxRecDepth 100000
set_option linter.unusedVariables false

theorem cells80 : Try.prog.cellsOf 80 = 6 := by kernel_rfl
theorem cells78 : Try.prog.cellsOf 78 = 1 := by kernel_rfl
theorem bytes80 : Try.prog.bytesOf 80 = 72 := by kernel_rfl
theorem ok_okV {v : Val} (h : v.ok) : okV v := by
  obtain ⟨_, h2, h3⟩ := h
  simp only [Lit.wf, Bool.and_eq_true, decide_eq_true_eq] at h2
  have e1 : IntKind.min .i64 = -9223372036854775808 := by decide
  have e2 : IntKind.max .i64 = 9223372036854775807 := by decide
  have : reachBytes = 140737488351232 := by decide
  exact ⟨by omega, by omega⟩
theorem wideL_of : ∀ {l : List Ex}, (∀ x, x ∈ l → x.wide) → wideL l
  | [], _ => trivial
  | e :: r, h => ⟨h e (by simp), wideL_of (fun x hx => h x (by simp [hx]))⟩
theorem okcL_of : ∀ {l : List Ex}, (∀ x, x ∈ l → x.okc) → okcL l
  | [], _ => trivial
  | e :: r, h => ⟨h e (by simp), okcL_of (fun x hx => h x (by simp [hx]))⟩
theorem exOf : ∀ (n : Nat) (cs : List PV), Fits Try.prog n 80 cs → ∃ e : Ex, e.cells = cs ∧ e.wide ∧ e.okc := by
  intro n
  induction n using Nat.strongRecOn with
  | _ n ih =>
    intro cs h
    obtain ⟨m, rfl, hl, hf⟩ := h.struct Try.underlying80
    rw [cells80] at hl
    obtain ⟨a, b, c, d, e, f, rfl⟩ : ∃ a b c d e f, cs = [a, b, c, d, e, f] := by
      match cs, hl with
      | [a, b, c, d, e, f], _ => exact ⟨a, b, c, d, e, f, rfl⟩
    have h0 : Fits Try.prog m 3 (([a, b, c, d, e, f].drop 0).take (Try.prog.cellsOf 3)) := hf 0 _ rfl
    have h1 : Fits Try.prog m 3 (([a, b, c, d, e, f].drop 1).take (Try.prog.cellsOf 3)) := hf 1 _ rfl
    have h2 : Fits Try.prog m 25 (([a, b, c, d, e, f].drop 2).take (Try.prog.cellsOf 25)) := hf 2 _ rfl
    have h3 : Fits Try.prog m 78 (([a, b, c, d, e, f].drop 5).take (Try.prog.cellsOf 78)) := hf 3 _ rfl
    rw [cells3] at h0 h1
    rw [cells25] at h2
    rw [cells78] at h3
    have h0 : Fits Try.prog m 3 [a] := h0
    have h1 : Fits Try.prog m 3 [b] := h1
    have h2 : Fits Try.prog m 25 [c, d, e] := h2
    have h3 : Fits Try.prog m 78 [f] := h3
    obtain ⟨op, e0, _⟩ := h0.int Try.underlying3
    obtain ⟨nn, e1, _⟩ := h1.int Try.underlying3
    obtain ⟨v, e2, ov⟩ := cellsV h2
    obtain ⟨m', es, rfl, e3, ⟨_, hb⟩, hes⟩ := h3.slice Try.underlying78
    simp only [List.cons.injEq, and_true, Val.cells] at e0 e1 e2 e3
    obtain ⟨rfl, rfl, rfl⟩ := e2
    subst e0 e1 e3
    obtain ⟨l, rfl, hlk⟩ := elems_of (enc := Ex.cells) (ok := fun e => e.wide ∧ e.okc) (fun x hx => by
      obtain ⟨y, hy, h1, h2⟩ := ih m' (by omega) x (hes x hx).2
      exact ⟨y, hy, h1, h2⟩)
    rw [bytes80, List.length_map] at hb
    refine ⟨.mk op nn v l, ?_, ⟨?_, ?_⟩, ok_okV ov, ?_⟩
    · rw [cells_mk]
    · unfold wideN; have : reachBytes = 140737488351232 := by decide
      omega
    · exact wideL_of fun x hx => (hlk x hx).1
    · exact okcL_of fun x hx => (hlk x hx).2
theorem fits80 {n : Nat} {x : PV} (h : FitsA Try.prog n 80 x) : ∃ op m vk vn vs ar, x = .agg [.int .i64 op, .int .i64 m, .int .i64 vk, .int .i64 vn, .str vs, .sl (ar.map Ex.cells)] ∧ (Ex.mk op m ⟨vk, vn, vs⟩ ar).wide ∧ (Ex.mk op m ⟨vk, vn, vs⟩ ar).okc := by
  obtain ⟨cs, rfl, g⟩ := h.agg Try.underlying80
  obtain ⟨⟨op, m, ⟨vk, vn, vs⟩, ar⟩, rfl, h1, h2⟩ := exOf _ _ g
  exact ⟨op, m, vk, vn, vs, ar, by rw [cells_mk], h1, h2⟩
end Go.Proofs.Ytnhmnfokbinplaa

namespace Go.Proofs.Ytnhmnfokbinplaa
open Go Go.RowKit
set_option maxRecDepth 100000
set_option linter.unusedSimpArgs false
set_option linter.unusedVariables false

end Go.Proofs.Ytnhmnfokbinplaa

namespace Go.Proofs.Ytnhmnfokbinplaa
open Go Go.RowKit
set_option maxRecDepth 100000
set_option linter.unusedSimpArgs false
set_option linter.unusedVariables false

/-! ### plain -/
mutual
theorem okV_eval {col : Int → Val} (hc : ∀ n, okV (col n)) : ∀ e : Ex, e.okc → okV (evalE col e)
  | .mk op n v ar, h => by
    rw [evalE]
    exact okV_evOp (fun _ => hc n) h.1 (okV_evalL hc ar h.2)
theorem okV_evalL {col : Int → Val} (hc : ∀ n, okV (col n)) : ∀ l : List Ex, okcL l → ∀ x, x ∈ evalL col l → okV x
  | [], _, x, hx => by simp [evalL] at hx
  | e :: r, h, x, hx => by
    simp only [evalL, List.mem_cons] at hx
    rcases hx with rfl | hx
    · exact okV_eval hc e h.1
    · exact okV_evalL hc r h.2 x hx
end
/-! ### the walk -/
end Go.Proofs.Ytnhmnfokbinplaa
