/- cell: Order, Test, Cat, True, with what they call; cell: Test, Cat, True; Expressions: what they are to the walk; their size; Expressions: their size, the walk; Expressions: Size, built; Expressions: tallyref's number of arguments; Expressions: tallyref's Size, plain: it is the other one's; Expressions: mapped; Expressions: tallyref's Size, walked; Expressions: tallyref's ColumnsOf, its function; Expressions: tallyref's ColumnsOf; Expressions: tallyref's kindOf, its functions; Expressions: tallyref's Kind; Expressions: what they mean; what is built; parts; Expressions: what is certainly null, what is certainly not true; Expressions: nodes, height, what is built; what is worked out ahead; Expressions: others put in for columns; expr: Columns, what each does; Expressions: the workers that compile makes; Expressions: compile, what it makes; Expressions: Eval; Expressions that came in: what they read as; Expressions: Parts; the law ExprParts; Expressions: Fold. Own work; no condition. -/
import Derived.Test.YtnhmnfokbinplaaMp41
import Derived.Test.YtnhmnfokbinplaaMp44
import Derived.Test.YtnhmnfokbinplaaAbsX
import Derived.Test.YtnhmnfokbinplaaAbs25
import Derived.Test.YtnhmnfokbinplaaAbsF
import Derived.Test.YtnhmnfokbinplaaAbsP
import Derived.Test.YtnhmnfokbinplaaAbsQ
namespace Go.Proofs.Ytnhmnfokbinplaa
open Go Go.RowKit
set_option maxRecDepth 100000
set_option linter.unusedSimpArgs false
set_option linter.unusedVariables false

def cmpS (a b : ByteArray) : Int := Lib.compareBytes a.data.toList b.data.toList
theorem cmpstr_c (a b : ByteArray) : PCall Try.prog 188 [.str a, .str b] fun r => r = [.int .i64 (cmpS a b)] :=
  PCall.ext (fn := Try.f188) (e := Extern.BytealgCompare.compare) (by kernel_rfl) Try.func188 (by kernel_rfl) rfl (by kernel_rfl) (by kernel_rfl) fun m w vals hv => by
    obtain ⟨u, v, rfl, h1, h2⟩ := args2 hv
    cases h1; cases h2
    exact ⟨_, Lib.run_compareString a b w, .p (.int _ _)⟩
theorem compareString_c (a b : ByteArray) : PCall Try.prog 155 [.str a, .str b] fun r => r = [.int .i64 (cmpS a b)] := by
  refine PCall.x (nt := 8) (res := [.tmp 4]) mixed tt_ok [] Try.func155 rfl rfl rfl c155 (Nat.le_of_ble_eq_true rfl) ?_
  intro cp cc lp Q' hcp hcc hlp hQ
  repeat' (first
    | (with_reducible refine Nm.mk ?_; intro z hz)
    | (with_reducible refine IfB.mk ?_ ?_ <;> (intro h; cases h))
    | (with_reducible refine Two.l ?_; refine Asm.mk ?_ ?_; focus (decide +kernel))
    | (with_reducible refine Two.r ?_)
    | (with_reducible refine Asm.mk ?_ ?_; focus (first | kernel_rfl | decide))
    | (with_reducible refine isCP hcp ?_; first | (refine iP hcp (cmpstr_c a b) ?_; intro z hz))
    | (with_reducible refine isCC hcc ?_; first | (refine iA hcc (cmpstr_c a b) rfl ?_; intro z hz))
    | (with_reducible refine Asm.mk2 ?_ ?_)
    | ((fail_if_success (with_reducible first | refine hQ _ ?_ | refine Side.mk ?_ | refine isCP hcp ?_ | refine isCC hcc ?_ | refine isLP hlp ?_ | refine Ix.mk ?_ | refine SIx.mk ?_ | refine SEx.mk ?_ | refine EIx.mk ?_ | refine RIx.mk ?_ | show False | refine hR ?_ _ ?_ ?_ ?_ ?_ ?_ | refine hR2 ?_ _ ?_ ?_ ?_ ?_ ?_)); cbv))
  all_goals (refine hQ _ ?_; clear hQ hcp hcc hlp; subst_vars; simp_all [])
theorem strCompare_c (a b : ByteArray) : PCall Try.prog 100 [.str a, .str b] fun r => r = [.int .i64 (cmpS a b)] := by
  refine PCall.x (nt := 8) (res := [.tmp 4]) mixed tt_ok [] Try.func100 rfl rfl rfl c100 (Nat.le_of_ble_eq_true rfl) ?_
  intro cp cc lp Q' hcp hcc hlp hQ
  repeat' (first
    | (with_reducible refine Nm.mk ?_; intro z hz)
    | (with_reducible refine IfB.mk ?_ ?_ <;> (intro h; cases h))
    | (with_reducible refine Two.l ?_; refine Asm.mk ?_ ?_; focus (decide +kernel))
    | (with_reducible refine Two.r ?_)
    | (with_reducible refine Asm.mk ?_ ?_; focus (first | kernel_rfl | decide))
    | (with_reducible refine isCP hcp ?_; first | (refine iP hcp (compareString_c a b) ?_; intro z hz))
    | (with_reducible refine isCC hcc ?_; first | (refine iA hcc (compareString_c a b) rfl ?_; intro z hz))
    | (with_reducible refine Asm.mk2 ?_ ?_)
    | ((fail_if_success (with_reducible first | refine hQ _ ?_ | refine Side.mk ?_ | refine isCP hcp ?_ | refine isCC hcc ?_ | refine isLP hlp ?_ | refine Ix.mk ?_ | refine SIx.mk ?_ | refine SEx.mk ?_ | refine EIx.mk ?_ | refine RIx.mk ?_ | show False | refine hR ?_ _ ?_ ?_ ?_ ?_ ?_ | refine hR2 ?_ _ ?_ ?_ ?_ ?_ ?_)); cbv))
  all_goals (refine hQ _ ?_; clear hQ hcp hcc hlp; subst_vars; simp_all [])
def cmpI (a b : Int) : Int := if a < b then -1 else if b < a then 1 else 0
theorem isNaN1 (a : Int) : PCall Try.prog 153 [.int .i64 a] fun r => r = [.bool false] := by
  refine PCall.x (nt := 6) (res := [.tmp 2]) mixed tt_ok [] Try.func153 rfl rfl rfl c153 (Nat.le_of_ble_eq_true rfl) ?_
  intro cp cc lp Q' hcp hcc hlp hQ
  repeat' (first
    | (with_reducible refine Nm.mk ?_; intro z hz)
    | (with_reducible refine IfB.mk ?_ ?_ <;> (intro h; cases h))
    | (with_reducible refine Two.l ?_; refine Asm.mk ?_ ?_; focus (decide +kernel))
    | (with_reducible refine Two.r ?_)
    | (with_reducible refine Asm.mk ?_ ?_; focus (first | kernel_rfl | decide))
    | (with_reducible refine Asm.mk2 ?_ ?_)
    | ((fail_if_success (with_reducible first | refine hQ _ ?_ | refine Side.mk ?_ | refine isCP hcp ?_ | refine isCC hcc ?_ | refine isLP hlp ?_ | refine Ix.mk ?_ | refine SIx.mk ?_ | refine SEx.mk ?_ | refine EIx.mk ?_ | refine RIx.mk ?_ | show False | refine hR ?_ _ ?_ ?_ ?_ ?_ ?_ | refine hR2 ?_ _ ?_ ?_ ?_ ?_ ?_)); cbv))
  all_goals (refine hQ _ ?_; clear hQ hcp hcc hlp; subst_vars; simp_all [])
theorem isNaN2 (a : Int) : PCall Try.prog 154 [.int .i64 a] fun r => r = [.bool false] := by
  refine PCall.x (nt := 6) (res := [.tmp 2]) mixed tt_ok [] Try.func154 rfl rfl rfl c154 (Nat.le_of_ble_eq_true rfl) ?_
  intro cp cc lp Q' hcp hcc hlp hQ
  repeat' (first
    | (with_reducible refine Nm.mk ?_; intro z hz)
    | (with_reducible refine IfB.mk ?_ ?_ <;> (intro h; cases h))
    | (with_reducible refine Two.l ?_; refine Asm.mk ?_ ?_; focus (decide +kernel))
    | (with_reducible refine Two.r ?_)
    | (with_reducible refine Asm.mk ?_ ?_; focus (first | kernel_rfl | decide))
    | (with_reducible refine Asm.mk2 ?_ ?_)
    | ((fail_if_success (with_reducible first | refine hQ _ ?_ | refine Side.mk ?_ | refine isCP hcp ?_ | refine isCC hcc ?_ | refine isLP hlp ?_ | refine Ix.mk ?_ | refine SIx.mk ?_ | refine SEx.mk ?_ | refine EIx.mk ?_ | refine RIx.mk ?_ | show False | refine hR ?_ _ ?_ ?_ ?_ ?_ ?_ | refine hR2 ?_ _ ?_ ?_ ?_ ?_ ?_)); cbv))
  all_goals (refine hQ _ ?_; clear hQ hcp hcc hlp; subst_vars; simp_all [])
theorem compare1_c (a b : Int) : PCall Try.prog 98 [.int .i64 a, .int .i64 b] fun r => r = [.int .i64 (cmpI a b)] := by
  refine PCall.x (nt := 20) (res := [.tmp 4]) mixed tt_ok [] Try.func98 rfl rfl rfl c98 (Nat.le_of_ble_eq_true rfl) ?_
  intro cp cc lp Q' hcp hcc hlp hQ
  repeat' (first
    | (with_reducible refine Nm.mk ?_; intro z hz)
    | (with_reducible refine IfB.mk ?_ ?_ <;> (intro h; cases h))
    | (with_reducible refine Two.l ?_; refine Asm.mk ?_ ?_; focus (decide +kernel))
    | (with_reducible refine Two.r ?_)
    | (with_reducible refine Asm.mk ?_ ?_; focus (first | kernel_rfl | decide))
    | (with_reducible refine isCP hcp ?_; first | (refine bP hcp (isNaN1 a) ?_; intro z hz) | (refine bP hcp (isNaN1 b) ?_; intro z hz))
    | (with_reducible refine isCC hcc ?_; first | (refine bA hcc (isNaN1 a) rfl ?_; intro z hz) | (refine bA hcc (isNaN1 b) rfl ?_; intro z hz))
    | (with_reducible refine Asm.mk2 ?_ ?_)
    | ((fail_if_success (with_reducible first | refine hQ _ ?_ | refine Side.mk ?_ | refine isCP hcp ?_ | refine isCC hcc ?_ | refine isLP hlp ?_ | refine Ix.mk ?_ | refine SIx.mk ?_ | refine SEx.mk ?_ | refine EIx.mk ?_ | refine RIx.mk ?_ | show False | refine hR ?_ _ ?_ ?_ ?_ ?_ ?_ | refine hR2 ?_ _ ?_ ?_ ?_ ?_ ?_)); cbv))
  all_goals (refine hQ _ ?_; clear hQ hcp hcc hlp; subst_vars; simp_all [cmpI]; try omega)
theorem compare2_c (a b : Int) : PCall Try.prog 99 [.int .i64 a, .int .i64 b] fun r => r = [.int .i64 (cmpI a b)] := by
  refine PCall.x (nt := 20) (res := [.tmp 4]) mixed tt_ok [] Try.func99 rfl rfl rfl c99 (Nat.le_of_ble_eq_true rfl) ?_
  intro cp cc lp Q' hcp hcc hlp hQ
  repeat' (first
    | (with_reducible refine Nm.mk ?_; intro z hz)
    | (with_reducible refine IfB.mk ?_ ?_ <;> (intro h; cases h))
    | (with_reducible refine Two.l ?_; refine Asm.mk ?_ ?_; focus (decide +kernel))
    | (with_reducible refine Two.r ?_)
    | (with_reducible refine Asm.mk ?_ ?_; focus (first | kernel_rfl | decide))
    | (with_reducible refine isCP hcp ?_; first | (refine bP hcp (isNaN2 a) ?_; intro z hz) | (refine bP hcp (isNaN2 b) ?_; intro z hz))
    | (with_reducible refine isCC hcc ?_; first | (refine bA hcc (isNaN2 a) rfl ?_; intro z hz) | (refine bA hcc (isNaN2 b) rfl ?_; intro z hz))
    | (with_reducible refine Asm.mk2 ?_ ?_)
    | ((fail_if_success (with_reducible first | refine hQ _ ?_ | refine Side.mk ?_ | refine isCP hcp ?_ | refine isCC hcc ?_ | refine isLP hlp ?_ | refine Ix.mk ?_ | refine SIx.mk ?_ | refine SEx.mk ?_ | refine EIx.mk ?_ | refine RIx.mk ?_ | show False | refine hR ?_ _ ?_ ?_ ?_ ?_ ?_ | refine hR2 ?_ _ ?_ ?_ ?_ ?_ ?_)); cbv))
  all_goals (refine hQ _ ?_; clear hQ hcp hcc hlp; subst_vars; simp_all [cmpI]; try omega)

def orI : List Int → Int
  | [] => 0
  | x :: r => if x = 0 then orI r else x
theorem or_c (l : List Int) (L : List (List PV)) (hL : l.map i64c = L) (hs : l.length ≤ 1000) : PCall Try.prog 97 [.sl L] fun r => r = [.int .i64 (orI l)] := by
  have hLl : L.length = l.length := by rw [← hL]; simp
  refine PCall.x (nt := 18) (res := [.tmp 2]) mixed tt_ok [] Try.func97 rfl rfl rfl c97 (Nat.le_of_ble_eq_true rfl) ?_
  intro cp cc lp Q' hcp hcc hlp hQ
  repeat' (first
    | (with_reducible refine Nm.mk ?_; intro z hz)
    | (with_reducible refine IfB.mk ?_ ?_ <;> (intro h; cases h))
    | (with_reducible refine Two.l ?_; refine Asm.mk ?_ ?_; focus (decide +kernel))
    | (with_reducible refine Two.r ?_)
    | (with_reducible refine Asm.mk ?_ ?_; focus (first | kernel_rfl | decide))
    | (with_reducible refine Asm.mk2 ?_ ?_)
    | ((fail_if_success (with_reducible first | refine hQ _ ?_ | refine Side.mk ?_ | refine isCP hcp ?_ | refine isCC hcc ?_ | refine isLP hlp ?_ | refine Ix.mk ?_ | refine SIx.mk ?_ | refine SEx.mk ?_ | refine EIx.mk ?_ | refine RIx.mk ?_ | show False | refine hR ?_ _ ?_ ?_ ?_ ?_ ?_ | refine hR2 ?_ _ ?_ ?_ ?_ ?_ ?_)); cbv))
  simp only [nc] at hz
  simp only [nc'] at hz
  refine loopK (ι := Int) mixed tt_ok hcp hcc hlp [3, 6, 7] (fun i => [(8, .p (.int .i64 i))]) (fun i => (0 ≤ i ∧ i ≤ z) ∧ orI (l.drop i.toNat) = orI l) (fun i => (z - i).toNat) 0 (fun _ => rfl) ⟨by omega, rfl⟩ ⟨rfl, trivial⟩ ?_
  intro R i hi hR
  have hi0 : 0 ≤ i := hi.1.1
  have hi1 : i ≤ z := hi.1.2
  have hd := hi.2
  have hk : decide (i < z) = true → i < l.length := by simp only [decide_eq_true_eq]; omega
  have hge : decide (i < z) = false → l.drop i.toNat = [] := by intro h; simp only [decide_eq_false_iff_not] at h; exact List.drop_eq_nil_of_le (by omega)
  have hst : decide (i < z) = true → IntKind.i64.wrap (i + 1) = i + 1 ∧ (0 ≤ i + 1 ∧ i + 1 ≤ z) ∧ (z - (i + 1)).toNat < (z - i).toNat := by
    intro h
    simp only [decide_eq_true_eq] at h
    exact ⟨wrap_in (by omega), by omega, by omega⟩
  have hdr : ∀ x, l[i.toNat]? = some x → l.drop i.toNat = x :: l.drop (i + 1).toNat := by
    intro x hx
    have hlt := (List.getElem?_eq_some_iff.1 hx).1
    rw [List.drop_eq_getElem_cons hlt, show (i + 1).toNat = i.toNat + 1 by omega]
    congr 1
    exact (List.getElem?_eq_some_iff.1 hx).2
  repeat' (first
    | (with_reducible refine Nm.mk ?_; intro z hz)
    | (with_reducible refine IfB.mk ?_ ?_ <;> (intro h; cases h))
    | (with_reducible refine Two.l ?_; refine Asm.mk ?_ ?_; focus (decide +kernel))
    | (with_reducible refine Two.r ?_)
    | (with_reducible refine Asm.mk ?_ ?_; focus kernel_rfl)
    | (with_reducible refine Ix.map hL i64c_len (by decide) hi0 (hk (by assumption)) ?_; intro x hx)
    | (with_reducible refine Asm.mk2 ?_ ?_)
    | ((fail_if_success (with_reducible first | refine hQ _ ?_ | refine Side.mk ?_ | refine isCP hcp ?_ | refine isCC hcc ?_ | refine isLP hlp ?_ | refine Ix.mk ?_ | refine SIx.mk ?_ | refine SEx.mk ?_ | refine EIx.mk ?_ | refine RIx.mk ?_ | show False | refine hR ?_ _ ?_ ?_ ?_ ?_ ?_ | refine hR2 ?_ _ ?_ ?_ ?_ ?_ ?_)); cbv))
  · refine hQ _ ?_
    rw [← hd, hdr x hx]
    have : ¬ x = 0 := by clear hQ hR hcp hcc hlp; simp_all
    simp [orI, this]
  · obtain ⟨e1, e2, e3⟩ := hst (by assumption)
    rw [e1] at hz
    refine hR (i + 1) _ ⟨e2, ?_⟩ e3 ⟨hz ▸ rfl, trivial⟩ ⟨rfl, rfl, rfl, trivial⟩ rfl
    rw [hdr x hx] at hd
    have : x = 0 := by clear hQ hR hcp hcc hlp; simp_all
    rw [← hd]; simp [orI, this]
  · refine hQ _ ?_
    rw [← hd, hge (by assumption)]; rfl

theorem or3_c (a b c : Int) : PCall Try.prog 97 [.sl [[.int .i64 a], [.int .i64 b], [.int .i64 c]]] fun r => r = [.int .i64 (orI [a, b, c])] := or_c [a, b, c] _ rfl (by simp)
def orderV (a b : Val) : Int := orI [cmpI (clean a).k (clean b).k, cmpI (clean a).n (clean b).n, cmpS (clean a).s (clean b).s]
theorem order_c (k n : Int) (s : ByteArray) (k' n' : Int) (s' : ByteArray) : PCall Try.prog 50 [.agg [.int .i64 k, .int .i64 n, .str s], .agg [.int .i64 k', .int .i64 n', .str s']] fun r => r = [.int .i64 (orderV ⟨k, n, s⟩ ⟨k', n', s'⟩)] := by
  refine PCall.x (nt := 26) (res := [.tmp 4]) mixed tt_ok [] Try.func50 rfl rfl rfl c50 (Nat.le_of_ble_eq_true rfl) ?_
  intro cp cc lp Q' hcp hcc hlp hQ
  repeat' (first
    | (with_reducible refine Nm.mk ?_; intro z hz)
    | (with_reducible refine IfB.mk ?_ ?_ <;> (intro h; cases h))
    | (with_reducible refine Two.l ?_; refine Asm.mk ?_ ?_; focus (decide +kernel))
    | (with_reducible refine Two.r ?_)
    | (with_reducible refine Asm.mk ?_ ?_; focus (first | kernel_rfl | decide))
    | (with_reducible refine isCP hcp ?_; first | (refine vP hcp (clean_c k n s) ?_; intro v hv) | (refine vP hcp (clean_c k' n' s') ?_; intro v hv) | (refine iP hcp (compare1_c _ _) ?_; intro z hz) | (refine iP hcp (compare2_c _ _) ?_; intro z hz) | (refine iP hcp (strCompare_c _ _) ?_; intro z hz) | (refine iP hcp (or3_c _ _ _) ?_; intro z hz))
    | (with_reducible refine isCC hcc ?_; first | (refine vA hcc (clean_c k n s) rfl ?_; intro v hv) | (refine vA hcc (clean_c k' n' s') rfl ?_; intro v hv) | (refine iA hcc (compare1_c _ _) rfl ?_; intro z hz) | (refine iA hcc (compare2_c _ _) rfl ?_; intro z hz) | (refine iA hcc (strCompare_c _ _) rfl ?_; intro z hz) | (refine iA hcc (or3_c _ _ _) rfl ?_; intro z hz))
    | (with_reducible refine Asm.mk2 ?_ ?_)
    | ((fail_if_success (with_reducible first | refine hQ _ ?_ | refine Side.mk ?_ | refine isCP hcp ?_ | refine isCC hcc ?_ | refine isLP hlp ?_ | refine Ix.mk ?_ | refine SIx.mk ?_ | refine SEx.mk ?_ | refine EIx.mk ?_ | refine RIx.mk ?_ | show False | refine hR ?_ _ ?_ ?_ ?_ ?_ ?_ | refine hR2 ?_ _ ?_ ?_ ?_ ?_ ?_)); cbv))
  all_goals (refine hQ _ ?_; clear hQ hcp hcc hlp; subst_vars; simp [orderV])
end Go.Proofs.Ytnhmnfokbinplaa

namespace Go.Proofs.Ytnhmnfokbinplaa
open Go Go.RowKit
set_option maxRecDepth 100000
set_option linter.unusedSimpArgs false
set_option linter.unusedVariables false

def testO (op o : Int) : Bool := if op = 12 then decide (o = 0) else if op = 13 then !decide (o = 0) else if op = 14 then decide (o < 0) else if op = 15 then decide (o ≤ 0) else if op = 16 then decide (0 < o) else decide (0 ≤ o)
def testV (op : Int) (a b : Val) : Val :=
  if (clean a).k = 0 ∨ (clean b).k = 0 ∨ op < 12 ∨ 17 < op then Val.zero else flag (testO op (orderV (clean a) (clean b)))

theorem array6 {op z : Int} (h1 : ¬ op < 12) (h2 : ¬ 17 < op) (hz : IntKind.i64.wrap (op - 12) = z) {o : Int} {b1 b2 b3 b4 b5 b6 : Bool} (e1 : decide (o = 0) = b1) (e2 : (!decide (o = 0)) = b2) (e3 : decide (o < 0) = b3) (e4 : decide (o ≤ 0) = b4) (e5 : decide (0 < o) = b5) (e6 : decide (0 ≤ o) = b6)
    {K : AV → Prop} (k : K (.p (.bool (testO op o)))) : AIx [.p (.bool b1), .p (.bool b2), .p (.bool b3), .p (.bool b4), .p (.bool b5), .p (.bool b6)] 6 z K := by
  rw [wrap_in (by omega)] at hz
  refine AIx.at_ (.p (.bool (testO op o))) (by omega) (by omega) ?_ k
  have : op = 12 ∨ op = 13 ∨ op = 14 ∨ op = 15 ∨ op = 16 ∨ op = 17 := by omega
  rcases this with rfl | rfl | rfl | rfl | rfl | rfl <;> subst hz <;> subst e1 e2 e3 e4 e5 e6 <;> rfl

theorem test_c (op k n : Int) (s : ByteArray) (k' n' : Int) (s' : ByteArray) : PCall Try.prog 52 [.int .i64 op, .agg [.int .i64 k, .int .i64 n, .str s], .agg [.int .i64 k', .int .i64 n', .str s']] fun r => r = [(testV op ⟨k, n, s⟩ ⟨k', n', s'⟩).enc] := by
  have hop1 : decide (op < 12) = false → ¬ op < 12 := by simp
  have hop2 : decide (17 < op) = false → ¬ 17 < op := by simp
  refine PCall.x (nt := 49) (res := [.cell 6 25]) mixed tt_ok [] Try.func52 rfl rfl rfl c52 (Nat.le_of_ble_eq_true rfl) ?_
  intro cp cc lp Q' hcp hcc hlp hQ
  repeat' (first
    | (with_reducible refine Nm.mk ?_; intro z hz)
    | (with_reducible refine IfB.mk ?_ ?_ <;> (intro h; cases h))
    | (with_reducible refine Two.l ?_; refine Asm.mk ?_ ?_; focus (decide +kernel))
    | (with_reducible refine Two.r ?_)
    | (with_reducible refine Asm.mk ?_ ?_; focus kernel_rfl)
    | (with_reducible refine isCP hcp ?_; first | (refine vP hcp (clean_c k n s) ?_; intro v hv) | (refine vP hcp (clean_c k' n' s') ?_; intro v hv) | (refine iP hcp (order_c _ _ _ _ _ _) ?_; intro z hz) | (refine vP hcp (flag_c _) ?_; intro v hv))
    | (with_reducible refine isCC hcc ?_; first | (refine vA hcc (clean_c k n s) rfl ?_; intro v hv) | (refine vA hcc (clean_c k' n' s') rfl ?_; intro v hv) | (refine iA hcc (order_c _ _ _ _ _ _) rfl ?_; intro z hz) | (refine vA hcc (flag_c _) rfl ?_; intro v hv))
    | (with_reducible refine array6 (hop1 (by assumption)) (hop2 (by assumption)) (by assumption) (by assumption) (by assumption) (by assumption) (by assumption) (by assumption) (by assumption) ?_)
    | (with_reducible refine Asm.mk2 ?_ ?_)
    | ((fail_if_success (with_reducible first | refine hQ _ ?_ | refine Side.mk ?_ | refine isCP hcp ?_ | refine isCC hcc ?_ | refine isLP hlp ?_ | refine Ix.mk ?_ | refine SIx.mk ?_ | refine SEx.mk ?_ | refine EIx.mk ?_ | refine RIx.mk ?_ | show False | refine hR ?_ _ ?_ ?_ ?_ ?_ ?_ | refine hR2 ?_ _ ?_ ?_ ?_ ?_ ?_)); cbv))
  all_goals (refine hQ _ ?_; clear hQ hcp hcc hlp)
  · have h : testV op ⟨k, n, s⟩ ⟨k', n', s'⟩ = Val.zero := by unfold testV; rw [if_pos]; simp_all
    rw [h]; rfl
  · have h : testV op ⟨k, n, s⟩ ⟨k', n', s'⟩ = Val.zero := by unfold testV; rw [if_pos]; simp_all
    rw [h]; rfl
  · have h : testV op ⟨k, n, s⟩ ⟨k', n', s'⟩ = Val.zero := by unfold testV; rw [if_pos]; simp_all
    rw [h]; rfl
  · have h : testV op ⟨k, n, s⟩ ⟨k', n', s'⟩ = Val.zero := by unfold testV; rw [if_pos]; simp_all
    rw [h]; rfl
  · have h : testV op ⟨k, n, s⟩ ⟨k', n', s'⟩ = v := by
      unfold testV; rw [if_neg (by clear hv; simp_all), ← hv]; unfold testO; clear hv; subst_vars; rfl
    rw [h]; rfl

def catV (a b : Val) : Val := if ¬ a.k = 2 ∨ ¬ b.k = 2 ∨ (1000 : Int) < a.s.size + b.s.size then Val.zero else ⟨2, 0, a.s ++ b.s⟩
theorem cat_c (k n : Int) (s : ByteArray) (k' n' : Int) (s' : ByteArray) (h : s.size ≤ 281474976710656) (h' : s'.size ≤ 281474976710656) : PCall Try.prog 55 [.agg [.int .i64 k, .int .i64 n, .str s], .agg [.int .i64 k', .int .i64 n', .str s']] fun r => r = [(catV ⟨k, n, s⟩ ⟨k', n', s'⟩).enc] := by
  have hm : ¬ maxI < ((s.size + s'.size : Nat) : Int) := by
    have : maxI = 9223372036854775807 := by decide
    omega
  have hw : IntKind.i64.wrap ((s.size : Int) + (s'.size : Int)) = s.size + s'.size := wrap_in (by omega)
  refine PCall.x (nt := 30) (res := [.cell 4 25]) mixed tt_ok [] Try.func55 rfl rfl rfl c55 (Nat.le_of_ble_eq_true rfl) ?_
  intro cp cc lp Q' hcp hcc hlp hQ
  repeat' (first
    | (with_reducible refine Nm.mk ?_; intro z hz)
    | (with_reducible refine IfB.mk ?_ ?_ <;> (intro h; cases h))
    | (with_reducible refine Two.l ?_; refine Asm.mk ?_ ?_; focus (decide +kernel))
    | (with_reducible refine Two.r ?_)
    | (with_reducible refine Asm.mk ?_ ?_; focus (first | exact hm | kernel_rfl | decide))
    | (with_reducible refine Asm.mk2 ?_ ?_)
    | ((fail_if_success (with_reducible first | refine hQ _ ?_ | refine Side.mk ?_ | refine isCP hcp ?_ | refine isCC hcc ?_ | refine isLP hlp ?_ | refine Ix.mk ?_ | refine SIx.mk ?_ | refine SEx.mk ?_ | refine EIx.mk ?_ | refine RIx.mk ?_ | show False | refine hR ?_ _ ?_ ?_ ?_ ?_ ?_ | refine hR2 ?_ _ ?_ ?_ ?_ ?_ ?_)); cbv))
  · refine hQ _ ?_
    have e : catV ⟨k, n, s⟩ ⟨k', n', s'⟩ = Val.zero := by unfold catV; rw [if_pos]; left; clear hQ hcp hcc hlp; simp_all
    rw [e]; rfl
  · refine hQ _ ?_
    have e : catV ⟨k, n, s⟩ ⟨k', n', s'⟩ = Val.zero := by unfold catV; rw [if_pos]; right; left; clear hQ hcp hcc hlp; simp_all
    rw [e]; rfl
  · refine hQ _ ?_
    have e : catV ⟨k, n, s⟩ ⟨k', n', s'⟩ = Val.zero := by
      unfold catV; rw [if_pos]; right; right
      clear hQ hcp hcc hlp hm
      rename_i y1 h1 y2 h2 h3
      simp only [nc] at *
      simp only [nc'] at *
      subst h1 h2
      rw [hw] at h3
      subst h3
      exact of_decide_eq_true hz
    rw [e]; rfl
  · refine hQ _ ?_
    have e : catV ⟨k, n, s⟩ ⟨k', n', s'⟩ = ⟨2, 0, s ++ s'⟩ := by
      unfold catV; rw [if_neg]
      rename_i g1 g2 y1 h1 y2 h2 y3 h3 h4
      clear hQ hcp hcc hlp hm
      simp only [nc] at *
      simp only [nc'] at *
      subst h1 h2
      rw [hw] at h3
      subst h3
      have h5 := of_decide_eq_false h4
      simp only [Bool.not_eq_false', decide_eq_true_eq] at g1 g2
      simp only [not_or, Decidable.not_not]
      exact ⟨g1, g2, h5⟩
    rw [e, ← hz]; rfl

def trueV (v : Val) : Bool := decide (v.k = 1) && !decide (v.n = 0)
theorem true_c (k n : Int) (s : ByteArray) : PCall Try.prog 57 [.agg [.int .i64 k, .int .i64 n, .str s]] fun r => r = [.bool (trueV ⟨k, n, s⟩)] := by
  refine PCall.x (nt := 11) (res := [.tmp 2]) mixed tt_ok [] Try.func57 rfl rfl rfl c57 (Nat.le_of_ble_eq_true rfl) ?_
  intro cp cc lp Q' hcp hcc hlp hQ
  repeat' (first
    | (with_reducible refine Nm.mk ?_; intro z hz)
    | (with_reducible refine IfB.mk ?_ ?_ <;> (intro h; cases h))
    | (with_reducible refine Two.l ?_; refine Asm.mk ?_ ?_; focus (decide +kernel))
    | (with_reducible refine Two.r ?_)
    | (with_reducible refine Asm.mk ?_ ?_; focus (first | kernel_rfl | decide))
    | (with_reducible refine Asm.mk2 ?_ ?_)
    | ((fail_if_success (with_reducible first | refine hQ _ ?_ | refine Side.mk ?_ | refine isCP hcp ?_ | refine isCC hcc ?_ | refine isLP hlp ?_ | refine Ix.mk ?_ | refine SIx.mk ?_ | refine SEx.mk ?_ | refine EIx.mk ?_ | refine RIx.mk ?_ | show False | refine hR ?_ _ ?_ ?_ ?_ ?_ ?_ | refine hR2 ?_ _ ?_ ?_ ?_ ?_ ?_)); cbv))
  all_goals (refine hQ _ ?_; clear hQ hcp hcc hlp; subst_vars; simp_all [trueV])
end Go.Proofs.Ytnhmnfokbinplaa

namespace Go.Proofs.Ytnhmnfokbinplaa
open Go Go.RowKit
set_option maxRecDepth 100000
set_option linter.unusedSimpArgs false
set_option linter.unusedVariables false

inductive Ex where
  | mk (op n : Int) (v : Val) (ar : List Ex)
mutual
def Ex.cells : Ex → List PV
  | .mk op n v ar => [.int .i64 op, .int .i64 n, .int .i64 v.k, .int .i64 v.n, .str v.s, .sl (cellsL ar)]
def cellsL : List Ex → List (List PV)
  | [] => []
  | e :: r => e.cells :: cellsL r
end
theorem cellsL_eq : ∀ l : List Ex, cellsL l = l.map Ex.cells
  | [] => rfl
  | e :: r => by simp [cellsL, cellsL_eq r]
theorem cells_mk (op n : Int) (v : Val) (ar : List Ex) : (Ex.mk op n v ar).cells = [.int .i64 op, .int .i64 n, .int .i64 v.k, .int .i64 v.n, .str v.s, .sl (ar.map Ex.cells)] := by rw [Ex.cells, cellsL_eq]
theorem ex_len (e : Ex) : e.cells.length = 6 := by cases e; rfl
mutual
def Ex.sz : Ex → Nat
  | .mk _ _ _ ar => szL ar + 1
def szL : List Ex → Nat
  | [] => 0
  | e :: r => e.sz + szL r
end
theorem sz_mem : ∀ {l : List Ex} {e : Ex}, e ∈ l → e.sz ≤ szL l
  | [], _, h => by simp at h
  | a :: r, e, h => by
    simp only [szL]
    rcases List.mem_cons.1 h with g | g
    · subst g; omega
    · have := sz_mem g; omega

theorem Ix.ex {es : List (List PV)} {ar : List Ex} {i : Int} {K : List PV → Prop} (hl : ar.map Ex.cells = es) (h0 : 0 ≤ i) (hn : i < ar.length)
    (g : ∀ op n vk vn vs ar' es', ar[i.toNat]? = some (.mk op n ⟨vk, vn, vs⟩ ar') → ar'.map Ex.cells = es' → K [.int .i64 op, .int .i64 n, .int .i64 vk, .int .i64 vn, .str vs, .sl es']) : Ix 6 es i K := by
  refine Ix.map hl ex_len (by decide) h0 hn fun x hx => ?_
  obtain ⟨op, n, ⟨vk, vn, vs⟩, ar'⟩ := x
  rw [cells_mk]
  exact g op n vk vn vs ar' _ hx rfl

def arityE (op : Int) : Int := if op = 1 ∨ op = 2 then 0 else if op = 3 ∨ op = 4 ∨ op = 5 ∨ op = 6 then 1 else if op = 21 then 3 else if 7 ≤ op ∧ op ≤ 20 then 2 else -1
set_option maxHeartbeats 4000000 in
theorem arity_c (op : Int) : PCall Try.prog 132 [.int .i64 op] fun r => r = [.int .i64 (arityE op)] := by
  refine PCall.x (nt := 20) (res := [.tmp 2]) mixed tt_ok [] Try.func132 rfl rfl rfl c132 (Nat.le_of_ble_eq_true rfl) ?_
  intro cp cc lp Q' hcp hcc hlp hQ
  repeat' (first
    | (with_reducible refine Nm.mk ?_; intro z hz)
    | (with_reducible refine IfB.mk ?_ ?_ <;> (intro h; cases h))
    | (with_reducible refine Two.l ?_; refine Asm.mk ?_ ?_; focus (decide +kernel))
    | (with_reducible refine Two.r ?_)
    | (with_reducible refine Asm.mk ?_ ?_; focus (first | kernel_rfl | decide))
    | (with_reducible refine Asm.mk2 ?_ ?_)
    | ((fail_if_success (with_reducible first | refine hQ _ ?_ | refine Side.mk ?_ | refine isCP hcp ?_ | refine isCC hcc ?_ | refine isLP hlp ?_ | refine Ix.mk ?_ | refine SIx.mk ?_ | refine SEx.mk ?_ | refine EIx.mk ?_ | refine RIx.mk ?_ | show False | refine hR ?_ _ ?_ ?_ ?_ ?_ ?_ | refine hR2 ?_ _ ?_ ?_ ?_ ?_ ?_)); cbv))
  all_goals (refine hQ _ ?_; clear hQ hcp hcc hlp; simp only [decide_eq_true_eq, decide_eq_false_iff_not] at *; congr 2; unfold arityE; (repeat' split) <;> first | omega | (intros; omega))

def mx (a b : Int) : Int := if a < b then b else a
def badE (op n : Int) (v : Val) (len : Nat) : Bool := !decide (arityE op = (len : Int)) || (decide (op = 1) && decide (n < 0)) || (decide (op = 2) && decide (v.k = 2) && decide ((1000 : Int) < (v.s.size : Int)))
mutual
def walkE : Ex → Int → Int → Int → Bool × Int × Int
  | .mk op n v ar, d, nodes, high =>
    if decide (400 < nodes + 1) || decide (40 < d) || badE op n v ar.length then (false, nodes + 1, mx high d) else walkL ar (d + 1) (nodes + 1) (mx high d)
def walkL : List Ex → Int → Int → Int → Bool × Int × Int
  | [], _, n, h => (true, n, h)
  | a :: r, d, n, h => match walkE a d n h with
    | (true, n', h') => walkL r d n' h'
    | (false, n', h') => (false, n', h')
end
mutual
theorem walkE_nodes : ∀ (e : Ex) (d n h : Int) (b : Bool) (n' h' : Int), 0 ≤ n → n ≤ 400 → walkE e d n h = (b, n', h') → 0 ≤ n' ∧ n' ≤ 401 ∧ (b = true → n < n' ∧ n' ≤ 400)
  | .mk op m v ar, d, n, h, b, n', h', h0, h1, he => by
    rw [walkE] at he
    split at he
    · simp only [Prod.mk.injEq] at he
      obtain ⟨rfl, rfl, rfl⟩ := he
      exact ⟨by omega, by omega, fun h => by cases h⟩
    · rename_i hc
      have hn : n + 1 ≤ 400 := by
        simp only [Bool.or_eq_true, decide_eq_true_eq, not_or] at hc
        omega
      have := walkL_nodes ar (d + 1) (n + 1) (mx h d) b n' h' (by omega) hn he
      exact ⟨this.1, this.2.1, fun hb => by have := this.2.2 hb; omega⟩
theorem walkL_nodes : ∀ (l : List Ex) (d n h : Int) (b : Bool) (n' h' : Int), 0 ≤ n → n ≤ 400 → walkL l d n h = (b, n', h') → 0 ≤ n' ∧ n' ≤ 401 ∧ (b = true → n ≤ n' ∧ n' ≤ 400)
  | [], d, n, h, b, n', h', h0, h1, he => by
    simp only [walkL, Prod.mk.injEq] at he
    obtain ⟨rfl, rfl, rfl⟩ := he
    exact ⟨h0, by omega, fun _ => ⟨Int.le_refl _, h1⟩⟩
  | a :: r, d, n, h, b, n', h', h0, h1, he => by
    rw [walkL] at he
    split at he
    · rename_i n1 h2 hw
      have h3 := walkE_nodes a d n h _ _ _ h0 h1 hw
      have h4 := walkL_nodes r d n1 h2 b n' h' h3.1 (h3.2.2 rfl).2 he
      exact ⟨h4.1, h4.2.1, fun hb => by have := h3.2.2 rfl; have := h4.2.2 hb; omega⟩
    · rename_i n1 h2 hw
      have h3 := walkE_nodes a d n h _ _ _ h0 h1 hw
      simp only [Prod.mk.injEq] at he
      obtain ⟨rfl, rfl, rfl⟩ := he
      exact ⟨h3.1, h3.2.1, fun h => by cases h⟩
end

def wH (n h : Int) : List AObj := [.cells [.p (.int .i64 n)], .cells [.p (.int .i64 h)], .cells [.fn 131 [.ref 0 0, .ref 1 0, .ref 2 0]]]
def WalkC (e : Ex) : Prop := ∀ (cells : List PV) (d n h : Int), e.cells = cells → 0 ≤ d → d ≤ 41 → 0 ≤ n → n ≤ 400 → ∃ b n' h', walkE e d n h = (b, n', h') ∧
  ACall Try.prog 131 [.p (.ip cells), .p (.int .i64 d), .ref 0 0, .ref 1 0, .ref 2 0] (wH n h) fun r H' => r = .p (.bool b) ∧ takeX H' 3 = wH n' h'

end Go.Proofs.Ytnhmnfokbinplaa

namespace Go.Proofs.Ytnhmnfokbinplaa
open Go Go.RowKit
set_option maxRecDepth 100000
set_option linter.unusedSimpArgs false
set_option linter.unusedVariables false

set_option maxHeartbeats 4000000 in
theorem walk_c (op m : Int) (v : Val) (ar : List Ex) (es : List (List PV)) (hes : ar.map Ex.cells = es) (IH : ∀ x, x ∈ ar → WalkC x) (d n h : Int) (hd0 : 0 ≤ d) (hd1 : d ≤ 41) (hn0 : 0 ≤ n) (hn1 : n ≤ 400) :
    ACall Try.prog 131 [.p (.ip [.int .i64 op, .int .i64 m, .int .i64 v.k, .int .i64 v.n, .str v.s, .sl es]), .p (.int .i64 d), .ref 0 0, .ref 1 0, .ref 2 0] (wH n h) fun r H' => r = .p (.bool (walkE (.mk op m v ar) d n h).1) ∧ takeX H' 3 = wH (walkE (.mk op m v ar) d n h).2.1 (walkE (.mk op m v ar) d n h).2.2 := by
  have hel : es.length = ar.length := by rw [← hes]; simp
  obtain ⟨q, hq⟩ : ∃ q, walkE (.mk op m v ar) d n h = q := ⟨_, rfl⟩
  rw [hq]
  rw [walkE] at hq
  obtain ⟨vk, vn, vs⟩ := v
  have hw1 : IntKind.i64.wrap (n + 1) = n + 1 := wrap_in (by omega)
  have hsz : ((⟨vk, vn, vs⟩ : Val).s.size : Int) = vs.size := rfl
  have hfail : ∀ (zn zh : Int), IntKind.i64.wrap (n + 1) = zn → (if h < d then d else h) = zh →
      (decide (400 < zn) = true ∨ decide (40 < d) = true ∨ (∃ za zl, (!decide (za = zl)) = true ∧ arityE op = za ∧ (es.length : Int) = zl) ∨ (decide (op = 1) = true ∧ decide (m < 0) = true) ∨ (decide (op = 2) = true ∧ decide (vk = 2) = true ∧ ∃ zs, decide ((1000 : Int) < zs) = true ∧ (vs.size : Int) = zs)) → q = (false, zn, zh) := by
    intro zn zh h1 h2 h3
    rw [hw1] at h1
    subst h1 h2
    rw [← hq, if_pos]
    · rfl
    · simp only [badE, Bool.or_eq_true, Bool.and_eq_true, decide_eq_true_eq, Bool.not_eq_true', decide_eq_false_iff_not] at h3 ⊢
      rcases h3 with h3 | h3 | ⟨za, zl, h3, h4, h5⟩ | ⟨h3, h4⟩ | ⟨h3, h4, zs, h5, h6⟩
      · exact .inl (.inl h3)
      · exact .inl (.inr h3)
      · right; left; left; rw [h4, ← hel, h5]; exact h3
      · right; left; right; exact ⟨h3, h4⟩
      · right; right; exact ⟨⟨h3, h4⟩, by rw [hsz, h6]; exact h5⟩
  have hgo : ∀ (zn zh za zl : Int), IntKind.i64.wrap (n + 1) = zn → (if h < d then d else h) = zh → decide (400 < zn) = false → decide (40 < d) = false → (!decide (za = zl)) = false → arityE op = za → (es.length : Int) = zl →
      (decide (op = 1) = false ∨ decide (m < 0) = false) → (decide (op = 2) = false ∨ decide (vk = 2) = false ∨ ∃ zs, decide ((1000 : Int) < zs) = false ∧ (vs.size : Int) = zs) → walkL ar (d + 1) zn zh = q ∧ 0 ≤ zn ∧ zn ≤ 400 ∧ d ≤ 40 ∧ (es.length : Int) ≤ 3 := by
    intro zn zh za zl h1 h2 h3 h4 h5 h6 h7 h8 h9
    rw [hw1] at h1
    subst h1 h2
    simp only [decide_eq_false_iff_not, Bool.not_eq_false', decide_eq_true_eq] at h3 h4 h5
    have ha3 : arityE op ≤ 3 := by unfold arityE; (repeat' split) <;> omega
    refine ⟨?_, by omega, by omega, by omega, by omega⟩
    show walkL ar (d + 1) (n + 1) (mx h d) = q
    rw [← hq, if_neg]
    · simp only [badE, Bool.or_eq_true, Bool.and_eq_true, decide_eq_true_eq, Bool.not_eq_true', decide_eq_false_iff_not, not_or, not_and, Decidable.not_not]
      simp only [decide_eq_false_iff_not] at h8 h9
      refine ⟨⟨h3, h4⟩, ⟨by rw [h6, ← hel, h7]; exact h5, fun a b => ?_⟩, fun a b => ?_⟩
      · rcases h8 with g | g
        · exact g a
        · exact g b
      · rcases h9 with g | g | ⟨zs, g, k⟩
        · exact absurd a.1 g
        · exact absurd a.2 g
        · rw [hsz, k] at b; exact g b
  clear hq
  refine ACall.x (nt := 91) (res := [.tmp 7]) mixed tt_ok [] Try.func131 rfl rfl rfl c131 (Nat.le_of_ble_eq_true rfl) ?_
  intro cp cc lp Q' hcp hcc hlp hQ
  repeat' (first
    | (with_reducible refine Nm.mk ?_; intro z hz)
    | (with_reducible refine IfB.mk ?_ ?_ <;> (intro h; cases h))
    | (with_reducible refine Two.l ?_; refine Asm.mk ?_ ?_; focus (decide +kernel))
    | (with_reducible refine Two.r ?_)
    | (with_reducible refine Asm.mk ?_ ?_; focus (first | kernel_rfl | decide))
    | (with_reducible refine isCP hcp ?_; first | (refine iP hcp (arity_c op) ?_; intro z hz))
    | (with_reducible refine isCC hcc ?_; first | (refine iA hcc (arity_c op) rfl ?_; intro z hz))
    | (with_reducible refine Asm.mk2 ?_ ?_)
    | ((fail_if_success (with_reducible first | refine hQ _ _ ?_ | refine Side.mk ?_ | refine isCP hcp ?_ | refine isCC hcc ?_ | refine isLP hlp ?_ | refine Ix.mk ?_ | refine SIx.mk ?_ | refine SEx.mk ?_ | refine EIx.mk ?_ | refine RIx.mk ?_ | show False | refine hR ?_ _ ?_ ?_ ?_ ?_ ?_ | refine hR2 ?_ _ ?_ ?_ ?_ ?_ ?_)); cbv))
  all_goals first
    | (have e : q = _ := hfail _ _ (by assumption) (by assumption) (by first | exact .inl (by assumption) | exact .inr (.inl (by assumption)) | exact .inr (.inr (.inl ⟨_, _, by assumption, by assumption, by assumption⟩)) | exact .inr (.inr (.inr (.inl ⟨by assumption, by assumption⟩))) | exact .inr (.inr (.inr (.inr ⟨by assumption, by assumption, _, by assumption, by assumption⟩))))
       refine hQ _ _ ⟨?_, ?_⟩
       · rw [e]; rfl
       · rw [e]; rfl)
    | (obtain ⟨e, hzn0, hzn1, hd40, hl3⟩ := hgo _ _ _ _ (by assumption) (by assumption) (by assumption) (by assumption) (by assumption) (by assumption) (by assumption) (by first | exact .inl (by assumption) | exact .inr (by assumption)) (by first | exact .inl (by assumption) | exact .inr (.inl (by assumption)) | exact .inr (.inr ⟨_, by assumption, by assumption⟩))
       have hwd : IntKind.i64.wrap (d + 1) = d + 1 := wrap_in (by omega)
       simp only [nc] at hz
       simp only [nc'] at hz
       have hzl := hz
       clear hz
       rename Int => zl
       refine loopX (ι := Int × Int × Int) mixed tt_ok hcp hcc hlp [0, 1, 2, 3, 4, 75] (fun p => [(76, .p (.int .i64 p.1))]) (fun p => wH p.2.1 p.2.2)
         (fun p => 0 ≤ p.1 ∧ p.1 ≤ zl ∧ 0 ≤ p.2.1 ∧ p.2.1 ≤ 400 ∧ walkL (ar.drop p.1.toNat) (d + 1) p.2.1 p.2.2 = q) (fun p => (zl - p.1).toNat) (0, _, _)
         ⟨by show (0 : Int) ≤ 0; omega, by show (0 : Int) ≤ zl; omega, hzn0, hzn1, e⟩ ⟨rfl, trivial⟩ rfl ?_
       rintro R ⟨i, n1, h1⟩ ⟨hi0, hi1, hb0, hb1, hw⟩ hR
       have hi0 : 0 ≤ i := hi0
       have hi1 : i ≤ zl := hi1
       have hb0 : 0 ≤ n1 := hb0
       have hb1 : n1 ≤ 400 := hb1
       have hw : walkL (ar.drop i.toNat) (d + 1) n1 h1 = q := hw
       have hk : decide (i < zl) = true → i < ar.length := by simp only [decide_eq_true_eq]; omega
       have hdr : ∀ x, ar[i.toNat]? = some x → ar.drop i.toNat = x :: ar.drop (i + 1).toNat := by
         intro x hx
         have hlt := (List.getElem?_eq_some_iff.1 hx).1
         rw [List.drop_eq_getElem_cons hlt, show (i + 1).toNat = i.toNat + 1 by omega]
         congr 1
         exact (List.getElem?_eq_some_iff.1 hx).2
       have hend : decide (i < zl) = false → q = (true, n1, h1) := by
         intro hf
         simp only [decide_eq_false_iff_not] at hf
         rw [← hw, List.drop_eq_nil_of_le (by omega)]; rfl
       have hstep : ∀ x b n2 h2, ar[i.toNat]? = some x → walkE x (d + 1) n1 h1 = (b, n2, h2) → (b = false → q = (false, n2, h2)) ∧ (b = true → walkL (ar.drop (i + 1).toNat) (d + 1) n2 h2 = q ∧ 0 ≤ n2 ∧ n2 ≤ 400) := by
         intro x b n2 h2 hx he
         have hn := walkE_nodes _ _ _ _ _ _ _ hb0 hb1 he
         rw [hdr x hx, walkL, he] at hw
         constructor
         · intro hb; subst hb; exact hw.symm
         · intro hb; subst hb; exact ⟨hw, hn.1, (hn.2.2 rfl).2⟩
       have hcallr : ∀ (op' m' vk' vn' : Int) (vs' : ByteArray) (ar' : List Ex) (es' : List (List PV)) (z' : Int), ar[i.toNat]? = some (.mk op' m' ⟨vk', vn', vs'⟩ ar') → ar'.map Ex.cells = es' → IntKind.i64.wrap (d + 1) = z' → ∃ b n2 h2, (walkE (.mk op' m' ⟨vk', vn', vs'⟩ ar') (d + 1) n1 h1 = (b, n2, h2) ∧ z' = d + 1) ∧
           ACall Try.prog 131 [.p (.ip [.int .i64 op', .int .i64 m', .int .i64 vk', .int .i64 vn', .str vs', .sl es']), .p (.int .i64 z'), .ref 0 0, .ref 1 0, .ref 2 0] (wH n1 h1) fun r H' => r = .p (.bool b) ∧ takeX H' 3 = wH n2 h2 := by
         intro op' m' vk' vn' vs' ar' es' z' hx he hz'
         rw [hwd] at hz'
         subst hz'
         obtain ⟨b, n2, h2, k1, k2⟩ := IH _ (List.mem_of_getElem? hx) _ (d + 1) n1 h1 (by rw [cells_mk, he]) (by omega) (by omega) hb0 hb1
         exact ⟨b, n2, h2, ⟨k1, rfl⟩, k2⟩
       repeat' (first
         | (with_reducible refine Nm.mk ?_; intro z hz)
         | (with_reducible refine IfB.mk ?_ ?_ <;> (intro h; cases h))
         | (with_reducible refine Two.l ?_; refine Asm.mk ?_ ?_; focus (decide +kernel))
         | (with_reducible refine Two.r ?_)
         | (with_reducible refine Asm.mk ?_ ?_; focus kernel_rfl)
         | (with_reducible refine Ix.ex hes hi0 (hk (by assumption)) ?_; intro op' m' vk' vn' vs' ar' es' hx hes')
         | (with_reducible refine isCC hcc ?_; obtain ⟨b', n2, h2, ⟨hwe, hz'⟩, hcall⟩ := hcallr _ _ _ _ _ _ _ _ hx hes' (by assumption); refine frameA (H1 := wH n2 h2) hcc [0, 1, 2] hcall rfl rfl rfl rfl rfl ?_)
         | (with_reducible refine Asm.mk2 ?_ ?_)
         | ((fail_if_success (with_reducible first | refine hQ _ _ ?_ | refine Side.mk ?_ | refine isCP hcp ?_ | refine isCC hcc ?_ | refine isLP hlp ?_ | refine Ix.mk ?_ | refine SIx.mk ?_ | refine SEx.mk ?_ | refine EIx.mk ?_ | refine RIx.mk ?_ | show False | refine hR ?_ _ ?_ ?_ ?_ ?_ ?_ | refine hR2 ?_ _ ?_ ?_ ?_ ?_ ?_)); cbv))
       all_goals first
         | (have hb' : (!b') = true := by assumption
            have e : q = (false, n2, h2) := (hstep _ _ _ _ hx hwe).1 (by simpa using hb')
            refine hQ _ _ ⟨?_, ?_⟩
            · rw [e]; rfl
            · rw [e]; rfl)
         | (have hb' : (!b') = false := by assumption
            obtain ⟨g1, g2, g3⟩ := (hstep _ _ _ _ hx hwe).2 (by simpa using hb')
            have hlt := hk (by assumption)
            have e1 : IntKind.i64.wrap (i + 1) = i + 1 := wrap_in (by omega)
            rw [e1] at hz
            refine hR (i + 1, n2, h2) _ ⟨by show 0 ≤ i + 1; omega, by show i + 1 ≤ _; clear hR hQ; simp only [decide_eq_true_eq] at *; omega, g2, g3, g1⟩ (by show Int.toNat _ < Int.toNat _; clear hR hQ; simp only [decide_eq_true_eq] at *; omega) ⟨hz ▸ rfl, trivial⟩ ⟨rfl, rfl, rfl, rfl, rfl, rfl, trivial⟩ rfl)
         | (have e : q = (true, n1, h1) := hend (by assumption)
            refine hQ _ _ ⟨?_, ?_⟩
            · rw [e]; rfl
            · rw [e]; rfl))
end Go.Proofs.Ytnhmnfokbinplaa

namespace Go.Proofs.Ytnhmnfokbinplaa
open Go Go.RowKit
set_option maxRecDepth 100000
set_option linter.unusedSimpArgs false
set_option linter.unusedVariables false

theorem walk_all : ∀ (k : Nat) (e : Ex), e.sz ≤ k → WalkC e
  | 0, .mk op m v ar, h => by simp [Ex.sz] at h
  | k + 1, .mk op m v ar, h => by
    intro cells d n h' he hd0 hd1 hn0 hn1
    refine ⟨_, _, _, rfl, ?_⟩
    rw [cells_mk] at he
    subst he
    refine walk_c op m v ar _ rfl (fun x hx => walk_all k x ?_) d n h' hd0 hd1 hn0 hn1
    have := sz_mem hx
    simp only [Ex.sz] at h; omega
def sizeM (e : Ex) : Int × Int := if (walkE e 1 0 0).1 = true then ((walkE e 1 0 0).2.1, (walkE e 1 0 0).2.2) else (401, 41)
def builtM (e : Ex) : Bool := decide ((sizeM e).1 ≤ 400)

theorem esize_c (op n vk vn : Int) (vs : ByteArray) (ar : List Ex) (es : List (List PV)) (hes : ar.map Ex.cells = es) :
    PCall Try.prog 67 [.agg [.int .i64 op, .int .i64 n, .int .i64 vk, .int .i64 vn, .str vs, .sl es]] fun r => r = [.int .i64 (sizeM (.mk op n ⟨vk, vn, vs⟩ ar)).1, .int .i64 (sizeM (.mk op n ⟨vk, vn, vs⟩ ar)).2] := by
  obtain ⟨b, n', h', hw, hcall⟩ := walk_all _ (.mk op n ⟨vk, vn, vs⟩ ar) (Nat.le_refl _) _ 1 0 0 (by rw [cells_mk]) (by decide) (by decide) (by decide) (by decide)
  have hs : sizeM (.mk op n ⟨vk, vn, vs⟩ ar) = if b = true then (n', h') else (401, 41) := by unfold sizeM; rw [hw]
  rw [hes] at hcall
  refine PCall.x (nt := 13) (res := [.tmp 2, .tmp 3]) mixed tt_ok [(131, [0])] Try.func67 rfl rfl rfl c67 (Nat.le_of_ble_eq_true rfl) ?_
  intro cp cc lp Q' hcp hcc hlp hQ
  repeat' (first
    | (with_reducible refine Nm.mk ?_; intro z hz)
    | (with_reducible refine IfB.mk ?_ ?_ <;> (intro h; cases h))
    | (with_reducible refine Two.l ?_; refine Asm.mk ?_ ?_; focus (decide +kernel))
    | (with_reducible refine Two.r ?_)
    | (with_reducible refine Asm.mk ?_ ?_; focus kernel_rfl)
    | (with_reducible refine isCC hcc ?_; refine frameA (H1 := wH n' h') hcc [1, 2, 3] hcall rfl rfl rfl rfl rfl ?_)
    | (with_reducible refine Asm.mk2 ?_ ?_)
    | ((fail_if_success (with_reducible first | refine hQ _ ?_ | refine Side.mk ?_ | refine isCP hcp ?_ | refine isCC hcc ?_ | refine isLP hlp ?_ | refine Ix.mk ?_ | refine SIx.mk ?_ | refine SEx.mk ?_ | refine EIx.mk ?_ | refine RIx.mk ?_ | show False | refine hR ?_ _ ?_ ?_ ?_ ?_ ?_ | refine hR2 ?_ _ ?_ ?_ ?_ ?_ ?_)); cbv))
  all_goals (refine hQ _ ?_; clear hQ hcp hcc hlp; rw [hs]; cases b <;> first | rfl | (simp at hz; done))
theorem ebuilt_c (op n vk vn : Int) (vs : ByteArray) (ar : List Ex) (es : List (List PV)) (hes : ar.map Ex.cells = es) :
    PCall Try.prog 115 [.agg [.int .i64 op, .int .i64 n, .int .i64 vk, .int .i64 vn, .str vs, .sl es]] fun r => r = [.bool (builtM (.mk op n ⟨vk, vn, vs⟩ ar))] := by
  have hs := esize_c op n vk vn vs ar es hes
  unfold builtM
  obtain ⟨q, hq⟩ : ∃ q, sizeM (.mk op n ⟨vk, vn, vs⟩ ar) = q := ⟨_, rfl⟩
  rw [hq] at hs ⊢
  refine PCall.x (nt := 12) (res := [.tmp 2]) mixed tt_ok [] Try.func115 rfl rfl rfl c115 (Nat.le_of_ble_eq_true rfl) ?_
  intro cp cc lp Q' hcp hcc hlp hQ
  repeat' (first
    | (with_reducible refine Nm.mk ?_; intro z hz)
    | (with_reducible refine IfB.mk ?_ ?_ <;> (intro h; cases h))
    | (with_reducible refine Two.l ?_; refine Asm.mk ?_ ?_; focus (decide +kernel))
    | (with_reducible refine Two.r ?_)
    | (with_reducible refine Asm.mk ?_ ?_; focus (first | kernel_rfl | decide))
    | (with_reducible refine isCP hcp ?_; first | (refine iiP hcp (hs) ?_; intro z w hz hw))
    | (with_reducible refine isCC hcc ?_; first | (refine iiA hcc (hs) rfl ?_; intro z w hz hw))
    | (with_reducible refine Asm.mk2 ?_ ?_)
    | ((fail_if_success (with_reducible first | refine hQ _ ?_ | refine Side.mk ?_ | refine isCP hcp ?_ | refine isCC hcc ?_ | refine isLP hlp ?_ | refine Ix.mk ?_ | refine SIx.mk ?_ | refine SEx.mk ?_ | refine EIx.mk ?_ | refine RIx.mk ?_ | show False | refine hR ?_ _ ?_ ?_ ?_ ?_ ?_ | refine hR2 ?_ _ ?_ ?_ ?_ ?_ ?_)); cbv))
  all_goals (refine hQ _ ?_; clear hQ hcp hcc hlp hs; subst_vars; rfl)
end Go.Proofs.Ytnhmnfokbinplaa

namespace Go.Proofs.Ytnhmnfokbinplaa
open Go Go.RowKit
set_option maxRecDepth 100000
set_option linter.unusedSimpArgs false
set_option linter.unusedVariables false

end Go.Proofs.Ytnhmnfokbinplaa

namespace Go.Proofs.Ytnhmnfokbinplaa
open Go Go.RowKit
set_option maxRecDepth 100000
set_option linter.unusedSimpArgs false
set_option linter.unusedVariables false

end Go.Proofs.Ytnhmnfokbinplaa

namespace Go.Proofs.Ytnhmnfokbinplaa
open Go Go.RowKit
set_option maxRecDepth 100000
set_option linter.unusedSimpArgs false
set_option linter.unusedVariables false

section
variable {P : Program} {cp : FuncId → List PV → (CR → Prop) → Prop} {cc : FuncId → List AV → List AObj → (AV → List AObj → Prop) → Prop} {f : FuncId} {args : List PV} {aargs : List AV} {H : List AObj}
theorem exP (hcp : PC1 P = cp) {X : Ex} {K : CR → Prop} (h : PCall P f args fun r => r = [.agg X.cells]) (k : ∀ op n vk vn vs ar es, X = .mk op n ⟨vk, vn, vs⟩ ar → ar.map Ex.cells = es → K (.pure [.agg [.int .i64 op, .int .i64 n, .int .i64 vk, .int .i64 vn, .str vs, .sl es]])) : cp f args K := by
  obtain ⟨op, n, ⟨vk, vn, vs⟩, ar⟩ := X
  rw [cells_mk] at h
  exact callP hcp h fun _ e => e ▸ k op n vk vn vs ar _ rfl rfl
theorem exA (hcc : ACall P = cc) {X : Ex} {K : AV → List AObj → Prop} (h : PCall P f args fun r => r = [.agg X.cells]) (ha : optL pureX aargs = some args) (k : ∀ op n vk vn vs ar es, X = .mk op n ⟨vk, vn, vs⟩ ar → ar.map Ex.cells = es → K (.p (.agg [.int .i64 op, .int .i64 n, .int .i64 vk, .int .i64 vn, .str vs, .sl es])) H) : cc f aargs H K := by
  obtain ⟨op, n, ⟨vk, vn, vs⟩, ar⟩ := X
  rw [cells_mk] at h
  exact callA hcc ha h fun _ e => e ▸ k op n vk vn vs ar _ rfl rfl
theorem pure_p : ∀ cs : List PV, optL pureX (mapX .p cs) = some cs
  | [] => rfl
  | c :: r => by
    have : pureX (.p c) = some c := by rw [pureX_eq]; cases c <;> rfl
    simp only [mapX, optL, this, pure_p r]
theorem ha1 {x : AV} {y : PV} {cs : List PV} (hx : pureX x = some y) : optL pureX (x :: mapX .p cs) = some (y :: cs) := by simp only [optL, hx, pure_p]
theorem hb1 {x : AV} {y : PV} {cs : List PV} (hx : pureX x = some y) : optL pureX (catX [x] (mapX .p cs)) = some (y :: cs) := ha1 hx
theorem hb2 {x x' : AV} {y y' : PV} {cs : List PV} (hx : pureX x = some y) (hx' : pureX x' = some y') : optL pureX (catX [x, x'] (mapX .p cs)) = some (y :: y' :: cs) := by
  show optL pureX (x :: x' :: mapX .p cs) = _
  simp only [optL, hx, hx', pure_p]
end

mutual
def mapE (g : Ex → Ex) : Ex → Ex
  | .mk op n v ar => g (.mk op (if op = 1 then n else 0) (if op = 1 then Val.zero else if op = 2 then clean v else Val.zero) (mapL g ar))
def mapL (g : Ex → Ex) : List Ex → List Ex
  | [] => []
  | e :: r => mapE g e :: mapL g r
end
theorem mapL_eq (g : Ex → Ex) : ∀ l : List Ex, mapL g l = l.map (mapE g)
  | [] => rfl
  | e :: r => by simp [mapL, mapL_eq g r]

theorem same_c (op n : Int) (vk vn : Int) (vs : ByteArray) (es : List (List PV)) : PCall Try.prog 117 [.agg [.int .i64 op, .int .i64 n, .int .i64 vk, .int .i64 vn, .str vs, .sl es]] fun r => r = [.agg [.int .i64 op, .int .i64 n, .int .i64 vk, .int .i64 vn, .str vs, .sl es]] := by
  refine PCall.x (nt := 4) (res := [.cell 2 80]) mixed tt_ok [] Try.func117 rfl rfl rfl c117 (Nat.le_of_ble_eq_true rfl) ?_
  intro cp cc lp Q' hcp hcc hlp hQ
  repeat' (first
    | (with_reducible refine Nm.mk ?_; intro z hz)
    | (with_reducible refine IfB.mk ?_ ?_ <;> (intro h; cases h))
    | (with_reducible refine Two.l ?_; refine Asm.mk ?_ ?_; focus (decide +kernel))
    | (with_reducible refine Two.r ?_)
    | (with_reducible refine Asm.mk ?_ ?_; focus (first | kernel_rfl | decide))
    | (with_reducible refine Asm.mk2 ?_ ?_)
    | ((fail_if_success (with_reducible first | refine hQ _ ?_ | refine Side.mk ?_ | refine isCP hcp ?_ | refine isCC hcc ?_ | refine isLP hlp ?_ | refine Ix.mk ?_ | refine SIx.mk ?_ | refine SEx.mk ?_ | refine EIx.mk ?_ | refine RIx.mk ?_ | show False | refine hR ?_ _ ?_ ?_ ?_ ?_ ?_ | refine hR2 ?_ _ ?_ ?_ ?_ ?_ ?_)); cbv))
  all_goals (refine hQ _ ?_; clear hQ hcp hcc hlp; subst_vars; simp_all [])

theorem takeS {α : Type} {l : List α} {i : Nat} {x : α} (h : l[i]? = some x) : l.take (i + 1) = l.take i ++ [x] := by rw [List.take_add_one, h]; rfl
theorem okEs_cells (l : List Ex) : okEs 6 (l.map Ex.cells) = true := by
  simp only [okEs, List.all_map, List.all_eq_true]
  intro e _
  obtain ⟨a, b, c, d⟩ := e
  simp [cells_mk, PV.one]
def wideN (n : Nat) : Prop := n * 72 ≤ 140737488355328
set_option maxHeartbeats 1000000 in
theorem mapped_c (g : Ex → Ex) (k : Nat) (caps : List PV) (C : Ex → Prop) (hg : ∀ (op n vk vn : Int) (vs : ByteArray) (ar : List Ex) (es : List (List PV)), C (.mk op n ⟨vk, vn, vs⟩ ar) → ar.map Ex.cells = es → PCall Try.prog k (.agg [.int .i64 op, .int .i64 n, .int .i64 vk, .int .i64 vn, .str vs, .sl es] :: caps) fun r => r = [.agg (g (.mk op n ⟨vk, vn, vs⟩ ar)).cells])
    (op n : Int) (v : Val) (ar : List Ex) (es : List (List PV)) (hes : ar.map Ex.cells = es) (hs : wideN ar.length) (hC : C (.mk op (if op = 1 then n else 0) (if op = 1 then Val.zero else if op = 2 then clean v else Val.zero) (ar.map (mapE g))))
    (IH : ∀ x, x ∈ ar → PCall Try.prog 116 [.agg x.cells, .fn k caps] fun r => r = [.agg (mapE g x).cells]) :
    PCall Try.prog 116 [.agg [.int .i64 op, .int .i64 n, .int .i64 v.k, .int .i64 v.n, .str v.s, .sl es], .fn k caps] fun r => r = [.agg (mapE g (.mk op n v ar)).cells] := by
  have hel : es.length = ar.length := by rw [← hes]; simp
  obtain ⟨q, hq⟩ : ∃ q, mapE g (.mk op n v ar) = q := ⟨_, rfl⟩
  rw [hq]
  rw [mapE, mapL_eq] at hq
  obtain ⟨vk, vn, vs⟩ := v
  unfold wideN at hs
  have hmc : ∀ (op' m' vk' vn' : Int) (vs' : ByteArray) (ar' : List Ex) (es' : List (List PV)) (i : Nat), ar[i]? = some (.mk op' m' ⟨vk', vn', vs'⟩ ar') → ar'.map Ex.cells = es' →
      PCall Try.prog 116 [.agg [.int .i64 op', .int .i64 m', .int .i64 vk', .int .i64 vn', .str vs', .sl es'], .fn k caps] fun r => r = [.agg (mapE g (.mk op' m' ⟨vk', vn', vs'⟩ ar')).cells] := by
    intro op' m' vk' vn' vs' ar' es' i hx he
    have := IH _ (List.mem_of_getElem? hx)
    rw [cells_mk, he] at this
    exact this
  refine PCall.x (nt := 43) (res := [.cell 4 80]) mixed tt_ok [] Try.func116 rfl rfl rfl c116 (Nat.le_of_ble_eq_true rfl) ?_
  intro cp cc lp Q' hcp hcc hlp hQ
  repeat' (first
    | (with_reducible refine Nm.mk ?_; intro z hz)
    | (with_reducible refine IfB.mk ?_ ?_ <;> (intro h; cases h))
    | (with_reducible refine Two.l ?_; refine Asm.mk ?_ ?_; focus (decide +kernel))
    | (with_reducible refine Two.r ?_)
    | (with_reducible refine Asm.mk ?_ ?_; focus (first | kernel_rfl | decide))
    | (with_reducible refine isCP hcp ?_; first | (refine vP hcp (clean_c vk vn vs) ?_; intro v hv))
    | (with_reducible refine isCC hcc ?_; first | (refine vA hcc (clean_c vk vn vs) rfl ?_; intro v hv))
    | (with_reducible refine Asm.mk2 ?_ ?_)
    | ((fail_if_success (with_reducible first | refine hQ _ ?_ | refine Side.mk ?_ | refine isCP hcp ?_ | refine isCC hcc ?_ | refine isLP hlp ?_ | refine Ix.mk ?_ | refine SIx.mk ?_ | refine SEx.mk ?_ | refine EIx.mk ?_ | refine RIx.mk ?_ | show False | refine hR ?_ _ ?_ ?_ ?_ ?_ ?_ | refine hR2 ?_ _ ?_ ?_ ?_ ?_ ?_)); cbv))
  · have hq' : g (.mk op n ⟨0, 0, ⟨⟨[]⟩⟩⟩ (ar.map (mapE g))) = q := by
      rw [← hq]
      clear hQ hcp hcc hlp hmc hg IH
      first
        | (have e : op = 1 := of_decide_eq_true (by assumption)
           subst e; rfl)
        | (have e : op = 2 := of_decide_eq_true (by assumption)
           subst e; subst_vars; rfl)
        | (have e1 : ¬ op = 1 := of_decide_eq_false (by assumption)
           have e2 : ¬ op = 2 := of_decide_eq_false (by assumption)
           rw [if_neg e1, if_neg e1, if_neg e2]; rfl)
    have hC' : C (.mk op n ⟨0, 0, ⟨⟨[]⟩⟩⟩ (ar.map (mapE g))) := by
      clear hQ hcp hcc hlp hmc hg IH hq hq'
      first
        | (have e : op = 1 := of_decide_eq_true (by assumption)
           subst e; exact hC)
        | (have e : op = 2 := of_decide_eq_true (by assumption)
           subst e; subst_vars; exact hC)
        | (have e1 : ¬ op = 1 := of_decide_eq_false (by assumption)
           have e2 : ¬ op = 2 := of_decide_eq_false (by assumption)
           rw [if_neg e1, if_neg e1, if_neg e2] at hC; exact hC)
    clear hq
    simp only [nc] at hz
    simp only [nc'] at hz
    have hzl := hz
    clear hz
    rename Int => zl
    refine mintX hlp 6 2 5 rfl rfl ?_
    refine loopT (ι := Int × List (List PV) × Nat) mixed tt_ok hcp hcc hlp [1, 2, 4, 5, 25, 26] (fun p => [(27, .p (.int .i64 p.1))])
      (fun p => [.cells [.p (.int .i64 op), .p (.int .i64 n), .p (.int .i64 vk), .p (.int .i64 vn), .p (.str vs), .p (.sl es)], .cells [.p (.int .i64 0), .p (.int .i64 0), .p (.int .i64 0), .p (.int .i64 0), .p (.str ⟨⟨[]⟩⟩), .full []],
        .cells [.p (.int .i64 op), .p (.int .i64 n), .p (.int .i64 0), .p (.int .i64 0), .p (.str ⟨⟨[]⟩⟩), .tok 3 p.2.1], .spare p.2.2 6])
      (fun p => 0 ≤ p.1 ∧ p.1 ≤ zl ∧ (ar.take p.1.toNat).map (fun e => (mapE g e).cells) = p.2.1 ∧ p.2.1.length = p.2.2) (fun p => (zl - p.1).toNat)
      (0, [], 0) 4 (fun _ => rfl) ⟨by show (0 : Int) ≤ 0; omega, by show (0 : Int) ≤ zl; omega, by simp, rfl⟩ ⟨rfl, trivial⟩ rfl ?_
    rintro R ⟨i, L, m⟩ ⟨hi0, hi1, hl, hm⟩ hR
    have hi0 : 0 ≤ i := hi0
    have hi1 : i ≤ zl := hi1
    have hl : (ar.take i.toNat).map (fun e => (mapE g e).cells) = L := hl
    have hm : L.length = m := hm
    have hll : L.length ≤ i.toNat := by rw [← hl]; simp; omega
    have hok : okEs 6 L = true := by
      rw [← hl, show (fun e => (mapE g e).cells) = Ex.cells ∘ mapE g from rfl, ← List.map_map]; exact okEs_cells _
    have hk : decide (i < zl) = true → i < ar.length := by simp only [decide_eq_true_eq]; omega
    have hst : decide (i < zl) = true → L.length + 1 ≤ maxLen ∧ (L.length + 1) * 72 ≤ 140737488355328 ∧ IntKind.i64.wrap (i + 1) = i + 1 ∧ (0 ≤ i + 1 ∧ i + 1 ≤ zl) ∧ (zl - (i + 1)).toNat < (zl - i).toNat := by
      intro h
      have hlt := hk h
      simp only [decide_eq_true_eq] at h
      refine ⟨by simp only [maxLen]; omega, by omega, wrap_in (by omega), by omega, by omega⟩
    have hfin : decide (i < zl) = false → (ar.map (mapE g)).map Ex.cells = L := by
      simp only [decide_eq_false_iff_not]; intro h
      rw [← hl, List.take_of_length_le (by omega), List.map_map]; rfl
    repeat' (first
      | (with_reducible refine Nm.mk ?_; intro z hz)
      | (with_reducible refine IfB.mk ?_ ?_ <;> (intro h; cases h))
      | (with_reducible refine Two.l ?_; refine Asm.mk ?_ ?_; focus (decide +kernel))
      | (with_reducible refine Two.r ?_)
      | (with_reducible refine Asm.mk ?_ ?_; focus (first | kernel_rfl | (have hlt := hk (by assumption); clear hR hQ hk hfin; refine ⟨hm.symm, rfl, hok, rfl, ?_, ?_⟩ <;> simp only [List.length_cons, List.length_nil, maxLen] <;> omega)))
      | (with_reducible refine isCP hcp ?_; first | (refine exP hcp (hmc _ _ _ _ _ _ _ i.toNat (by assumption) (by assumption)) ?_; intro op2 n2 vk2 vn2 vs2 ar2 es2 hX hes2))
      | (with_reducible refine isCC hcc ?_; first | (refine exA hcc (hmc _ _ _ _ _ _ _ i.toNat (by assumption) (by assumption)) rfl ?_; intro op2 n2 vk2 vn2 vs2 ar2 es2 hX hes2))
      | (with_reducible refine Ix.ex hes hi0 (hk (by assumption)) ?_; intro op' m' vk' vn' vs' ar' es' hx hes')
      | (with_reducible refine isCC hcc ?_; refine exA hcc (hg _ _ _ _ _ (ar.map (mapE g)) _ hC' (hfin (by assumption))) (hb1 rfl) ?_; intro op2 n2 vk2 vn2 vs2 ar2 es2 hX hes2)
      | (with_reducible refine Asm.mk2 ?_ ?_)
      | ((fail_if_success (with_reducible first | refine hQ _ ?_ | refine Side.mk ?_ | refine isCP hcp ?_ | refine isCC hcc ?_ | refine isLP hlp ?_ | refine Ix.mk ?_ | refine SIx.mk ?_ | refine SEx.mk ?_ | refine EIx.mk ?_ | refine RIx.mk ?_ | show False | refine hR ?_ _ ?_ ?_ ?_ ?_ ?_ | refine hR2 ?_ _ ?_ ?_ ?_ ?_ ?_)); cbv))
    · refine Side.mk ?_
      obtain ⟨u1, u2, u3⟩ := hst (by assumption)
      exact ⟨hm.symm, rfl, hok, rfl, u1, u2⟩
    · obtain ⟨u1, u2, e1, u3, u4⟩ := hst (by assumption)
      rw [e1] at hz
      rename_i L2 hL2 m2 hm2
      have et : ar.take (i + 1).toNat = ar.take i.toNat ++ [.mk op' m' ⟨vk', vn', vs'⟩ ar'] := by rw [show (i + 1).toNat = i.toNat + 1 by omega, takeS hx]
      refine hR (i + 1, _, _) _ ⟨u3.1, u3.2, ?_, ?_⟩ u4 ⟨hz ▸ rfl, trivial⟩ ⟨rfl, rfl, rfl, rfl, rfl, rfl, trivial⟩ rfl
      · show (ar.take (i + 1).toNat).map (fun e => (mapE g e).cells) = L2
        rw [et, List.map_append, hl, ← hL2]
        simp only [List.map_cons, List.map_nil, hX, cells_mk, hes2]
      · show L2.length = m2
        rw [← hL2, ← hm2, List.length_append]
    · refine hQ _ ?_
      rw [← hq']
      have hX' := hX
      rw [hX', cells_mk, hes2]
  · have hq' : g (.mk op 0 ⟨v.k, v.n, v.s⟩ (ar.map (mapE g))) = q := by
      rw [← hq]
      clear hQ hcp hcc hlp hmc hg IH
      first
        | (have e : op = 1 := of_decide_eq_true (by assumption)
           subst e; rfl)
        | (have e : op = 2 := of_decide_eq_true (by assumption)
           subst e; subst_vars; rfl)
        | (have e1 : ¬ op = 1 := of_decide_eq_false (by assumption)
           have e2 : ¬ op = 2 := of_decide_eq_false (by assumption)
           rw [if_neg e1, if_neg e1, if_neg e2]; rfl)
    have hC' : C (.mk op 0 ⟨v.k, v.n, v.s⟩ (ar.map (mapE g))) := by
      clear hQ hcp hcc hlp hmc hg IH hq hq'
      first
        | (have e : op = 1 := of_decide_eq_true (by assumption)
           subst e; exact hC)
        | (have e : op = 2 := of_decide_eq_true (by assumption)
           subst e; subst_vars; exact hC)
        | (have e1 : ¬ op = 1 := of_decide_eq_false (by assumption)
           have e2 : ¬ op = 2 := of_decide_eq_false (by assumption)
           rw [if_neg e1, if_neg e1, if_neg e2] at hC; exact hC)
    clear hq
    simp only [nc] at hz
    simp only [nc'] at hz
    have hzl := hz
    clear hz
    rename Int => zl
    refine mintX hlp 6 2 5 rfl rfl ?_
    refine loopT (ι := Int × List (List PV) × Nat) mixed tt_ok hcp hcc hlp [1, 2, 4, 5, 25, 26] (fun p => [(27, .p (.int .i64 p.1))])
      (fun p => [.cells [.p (.int .i64 op), .p (.int .i64 n), .p (.int .i64 vk), .p (.int .i64 vn), .p (.str vs), .p (.sl es)], .cells [.p (.int .i64 0), .p (.int .i64 0), .p (.int .i64 0), .p (.int .i64 0), .p (.str ⟨⟨[]⟩⟩), .full []],
        .cells [.p (.int .i64 op), .p (.int .i64 0), .p (.int .i64 v.k), .p (.int .i64 v.n), .p (.str v.s), .tok 3 p.2.1], .spare p.2.2 6])
      (fun p => 0 ≤ p.1 ∧ p.1 ≤ zl ∧ (ar.take p.1.toNat).map (fun e => (mapE g e).cells) = p.2.1 ∧ p.2.1.length = p.2.2) (fun p => (zl - p.1).toNat)
      (0, [], 0) 4 (fun _ => rfl) ⟨by show (0 : Int) ≤ 0; omega, by show (0 : Int) ≤ zl; omega, by simp, rfl⟩ ⟨rfl, trivial⟩ rfl ?_
    rintro R ⟨i, L, m⟩ ⟨hi0, hi1, hl, hm⟩ hR
    have hi0 : 0 ≤ i := hi0
    have hi1 : i ≤ zl := hi1
    have hl : (ar.take i.toNat).map (fun e => (mapE g e).cells) = L := hl
    have hm : L.length = m := hm
    have hll : L.length ≤ i.toNat := by rw [← hl]; simp; omega
    have hok : okEs 6 L = true := by
      rw [← hl, show (fun e => (mapE g e).cells) = Ex.cells ∘ mapE g from rfl, ← List.map_map]; exact okEs_cells _
    have hk : decide (i < zl) = true → i < ar.length := by simp only [decide_eq_true_eq]; omega
    have hst : decide (i < zl) = true → L.length + 1 ≤ maxLen ∧ (L.length + 1) * 72 ≤ 140737488355328 ∧ IntKind.i64.wrap (i + 1) = i + 1 ∧ (0 ≤ i + 1 ∧ i + 1 ≤ zl) ∧ (zl - (i + 1)).toNat < (zl - i).toNat := by
      intro h
      have hlt := hk h
      simp only [decide_eq_true_eq] at h
      refine ⟨by simp only [maxLen]; omega, by omega, wrap_in (by omega), by omega, by omega⟩
    have hfin : decide (i < zl) = false → (ar.map (mapE g)).map Ex.cells = L := by
      simp only [decide_eq_false_iff_not]; intro h
      rw [← hl, List.take_of_length_le (by omega), List.map_map]; rfl
    repeat' (first
      | (with_reducible refine Nm.mk ?_; intro z hz)
      | (with_reducible refine IfB.mk ?_ ?_ <;> (intro h; cases h))
      | (with_reducible refine Two.l ?_; refine Asm.mk ?_ ?_; focus (decide +kernel))
      | (with_reducible refine Two.r ?_)
      | (with_reducible refine Asm.mk ?_ ?_; focus (first | kernel_rfl | (have hlt := hk (by assumption); clear hR hQ hk hfin; refine ⟨hm.symm, rfl, hok, rfl, ?_, ?_⟩ <;> simp only [List.length_cons, List.length_nil, maxLen] <;> omega)))
      | (with_reducible refine isCP hcp ?_; first | (refine exP hcp (hmc _ _ _ _ _ _ _ i.toNat (by assumption) (by assumption)) ?_; intro op2 n2 vk2 vn2 vs2 ar2 es2 hX hes2))
      | (with_reducible refine isCC hcc ?_; first | (refine exA hcc (hmc _ _ _ _ _ _ _ i.toNat (by assumption) (by assumption)) rfl ?_; intro op2 n2 vk2 vn2 vs2 ar2 es2 hX hes2))
      | (with_reducible refine Ix.ex hes hi0 (hk (by assumption)) ?_; intro op' m' vk' vn' vs' ar' es' hx hes')
      | (with_reducible refine isCC hcc ?_; refine exA hcc (hg _ _ _ _ _ (ar.map (mapE g)) _ hC' (hfin (by assumption))) (hb1 rfl) ?_; intro op2 n2 vk2 vn2 vs2 ar2 es2 hX hes2)
      | (with_reducible refine Asm.mk2 ?_ ?_)
      | ((fail_if_success (with_reducible first | refine hQ _ ?_ | refine Side.mk ?_ | refine isCP hcp ?_ | refine isCC hcc ?_ | refine isLP hlp ?_ | refine Ix.mk ?_ | refine SIx.mk ?_ | refine SEx.mk ?_ | refine EIx.mk ?_ | refine RIx.mk ?_ | show False | refine hR ?_ _ ?_ ?_ ?_ ?_ ?_ | refine hR2 ?_ _ ?_ ?_ ?_ ?_ ?_)); cbv))
    · refine Side.mk ?_
      obtain ⟨u1, u2, u3⟩ := hst (by assumption)
      exact ⟨hm.symm, rfl, hok, rfl, u1, u2⟩
    · obtain ⟨u1, u2, e1, u3, u4⟩ := hst (by assumption)
      rw [e1] at hz
      rename_i L2 hL2 m2 hm2
      have et : ar.take (i + 1).toNat = ar.take i.toNat ++ [.mk op' m' ⟨vk', vn', vs'⟩ ar'] := by rw [show (i + 1).toNat = i.toNat + 1 by omega, takeS hx]
      refine hR (i + 1, _, _) _ ⟨u3.1, u3.2, ?_, ?_⟩ u4 ⟨hz ▸ rfl, trivial⟩ ⟨rfl, rfl, rfl, rfl, rfl, rfl, trivial⟩ rfl
      · show (ar.take (i + 1).toNat).map (fun e => (mapE g e).cells) = L2
        rw [et, List.map_append, hl, ← hL2]
        simp only [List.map_cons, List.map_nil, hX, cells_mk, hes2]
      · show L2.length = m2
        rw [← hL2, ← hm2, List.length_append]
    · refine hQ _ ?_
      rw [← hq']
      have hX' := hX
      rw [hX', cells_mk, hes2]
  · have hq' : g (.mk op 0 ⟨0, 0, ⟨⟨[]⟩⟩⟩ (ar.map (mapE g))) = q := by
      rw [← hq]
      clear hQ hcp hcc hlp hmc hg IH
      first
        | (have e : op = 1 := of_decide_eq_true (by assumption)
           subst e; rfl)
        | (have e : op = 2 := of_decide_eq_true (by assumption)
           subst e; subst_vars; rfl)
        | (have e1 : ¬ op = 1 := of_decide_eq_false (by assumption)
           have e2 : ¬ op = 2 := of_decide_eq_false (by assumption)
           rw [if_neg e1, if_neg e1, if_neg e2]; rfl)
    have hC' : C (.mk op 0 ⟨0, 0, ⟨⟨[]⟩⟩⟩ (ar.map (mapE g))) := by
      clear hQ hcp hcc hlp hmc hg IH hq hq'
      first
        | (have e : op = 1 := of_decide_eq_true (by assumption)
           subst e; exact hC)
        | (have e : op = 2 := of_decide_eq_true (by assumption)
           subst e; subst_vars; exact hC)
        | (have e1 : ¬ op = 1 := of_decide_eq_false (by assumption)
           have e2 : ¬ op = 2 := of_decide_eq_false (by assumption)
           rw [if_neg e1, if_neg e1, if_neg e2] at hC; exact hC)
    clear hq
    simp only [nc] at hz
    simp only [nc'] at hz
    have hzl := hz
    clear hz
    rename Int => zl
    refine mintX hlp 6 2 5 rfl rfl ?_
    refine loopT (ι := Int × List (List PV) × Nat) mixed tt_ok hcp hcc hlp [1, 2, 4, 5, 25, 26] (fun p => [(27, .p (.int .i64 p.1))])
      (fun p => [.cells [.p (.int .i64 op), .p (.int .i64 n), .p (.int .i64 vk), .p (.int .i64 vn), .p (.str vs), .p (.sl es)], .cells [.p (.int .i64 0), .p (.int .i64 0), .p (.int .i64 0), .p (.int .i64 0), .p (.str ⟨⟨[]⟩⟩), .full []],
        .cells [.p (.int .i64 op), .p (.int .i64 0), .p (.int .i64 0), .p (.int .i64 0), .p (.str ⟨⟨[]⟩⟩), .tok 3 p.2.1], .spare p.2.2 6])
      (fun p => 0 ≤ p.1 ∧ p.1 ≤ zl ∧ (ar.take p.1.toNat).map (fun e => (mapE g e).cells) = p.2.1 ∧ p.2.1.length = p.2.2) (fun p => (zl - p.1).toNat)
      (0, [], 0) 4 (fun _ => rfl) ⟨by show (0 : Int) ≤ 0; omega, by show (0 : Int) ≤ zl; omega, by simp, rfl⟩ ⟨rfl, trivial⟩ rfl ?_
    rintro R ⟨i, L, m⟩ ⟨hi0, hi1, hl, hm⟩ hR
    have hi0 : 0 ≤ i := hi0
    have hi1 : i ≤ zl := hi1
    have hl : (ar.take i.toNat).map (fun e => (mapE g e).cells) = L := hl
    have hm : L.length = m := hm
    have hll : L.length ≤ i.toNat := by rw [← hl]; simp; omega
    have hok : okEs 6 L = true := by
      rw [← hl, show (fun e => (mapE g e).cells) = Ex.cells ∘ mapE g from rfl, ← List.map_map]; exact okEs_cells _
    have hk : decide (i < zl) = true → i < ar.length := by simp only [decide_eq_true_eq]; omega
    have hst : decide (i < zl) = true → L.length + 1 ≤ maxLen ∧ (L.length + 1) * 72 ≤ 140737488355328 ∧ IntKind.i64.wrap (i + 1) = i + 1 ∧ (0 ≤ i + 1 ∧ i + 1 ≤ zl) ∧ (zl - (i + 1)).toNat < (zl - i).toNat := by
      intro h
      have hlt := hk h
      simp only [decide_eq_true_eq] at h
      refine ⟨by simp only [maxLen]; omega, by omega, wrap_in (by omega), by omega, by omega⟩
    have hfin : decide (i < zl) = false → (ar.map (mapE g)).map Ex.cells = L := by
      simp only [decide_eq_false_iff_not]; intro h
      rw [← hl, List.take_of_length_le (by omega), List.map_map]; rfl
    repeat' (first
      | (with_reducible refine Nm.mk ?_; intro z hz)
      | (with_reducible refine IfB.mk ?_ ?_ <;> (intro h; cases h))
      | (with_reducible refine Two.l ?_; refine Asm.mk ?_ ?_; focus (decide +kernel))
      | (with_reducible refine Two.r ?_)
      | (with_reducible refine Asm.mk ?_ ?_; focus (first | kernel_rfl | (have hlt := hk (by assumption); clear hR hQ hk hfin; refine ⟨hm.symm, rfl, hok, rfl, ?_, ?_⟩ <;> simp only [List.length_cons, List.length_nil, maxLen] <;> omega)))
      | (with_reducible refine isCP hcp ?_; first | (refine exP hcp (hmc _ _ _ _ _ _ _ i.toNat (by assumption) (by assumption)) ?_; intro op2 n2 vk2 vn2 vs2 ar2 es2 hX hes2))
      | (with_reducible refine isCC hcc ?_; first | (refine exA hcc (hmc _ _ _ _ _ _ _ i.toNat (by assumption) (by assumption)) rfl ?_; intro op2 n2 vk2 vn2 vs2 ar2 es2 hX hes2))
      | (with_reducible refine Ix.ex hes hi0 (hk (by assumption)) ?_; intro op' m' vk' vn' vs' ar' es' hx hes')
      | (with_reducible refine isCC hcc ?_; refine exA hcc (hg _ _ _ _ _ (ar.map (mapE g)) _ hC' (hfin (by assumption))) (hb1 rfl) ?_; intro op2 n2 vk2 vn2 vs2 ar2 es2 hX hes2)
      | (with_reducible refine Asm.mk2 ?_ ?_)
      | ((fail_if_success (with_reducible first | refine hQ _ ?_ | refine Side.mk ?_ | refine isCP hcp ?_ | refine isCC hcc ?_ | refine isLP hlp ?_ | refine Ix.mk ?_ | refine SIx.mk ?_ | refine SEx.mk ?_ | refine EIx.mk ?_ | refine RIx.mk ?_ | show False | refine hR ?_ _ ?_ ?_ ?_ ?_ ?_ | refine hR2 ?_ _ ?_ ?_ ?_ ?_ ?_)); cbv))
    · refine Side.mk ?_
      obtain ⟨u1, u2, u3⟩ := hst (by assumption)
      exact ⟨hm.symm, rfl, hok, rfl, u1, u2⟩
    · obtain ⟨u1, u2, e1, u3, u4⟩ := hst (by assumption)
      rw [e1] at hz
      rename_i L2 hL2 m2 hm2
      have et : ar.take (i + 1).toNat = ar.take i.toNat ++ [.mk op' m' ⟨vk', vn', vs'⟩ ar'] := by rw [show (i + 1).toNat = i.toNat + 1 by omega, takeS hx]
      refine hR (i + 1, _, _) _ ⟨u3.1, u3.2, ?_, ?_⟩ u4 ⟨hz ▸ rfl, trivial⟩ ⟨rfl, rfl, rfl, rfl, rfl, rfl, trivial⟩ rfl
      · show (ar.take (i + 1).toNat).map (fun e => (mapE g e).cells) = L2
        rw [et, List.map_append, hl, ← hL2]
        simp only [List.map_cons, List.map_nil, hX, cells_mk, hes2]
      · show L2.length = m2
        rw [← hL2, ← hm2, List.length_append]
    · refine hQ _ ?_
      rw [← hq']
      have hX' := hX
      rw [hX', cells_mk, hes2]
mutual
def Ex.wide : Ex → Prop
  | .mk _ _ _ ar => wideN ar.length ∧ wideL ar
def wideL : List Ex → Prop
  | [] => True
  | e :: r => e.wide ∧ wideL r
end
theorem wide_mem : ∀ {l : List Ex} {e : Ex}, wideL l → e ∈ l → e.wide
  | [], _, _, h => by simp at h
  | a :: r, e, hw, h => by
    rcases List.mem_cons.1 h with g | g
    · subst g; exact hw.1
    · exact wide_mem hw.2 g
mutual
def CondE (C : Ex → Prop) (g : Ex → Ex) : Ex → Prop
  | .mk op n v ar => C (.mk op (if op = 1 then n else 0) (if op = 1 then Val.zero else if op = 2 then clean v else Val.zero) (mapL g ar)) ∧ CondL C g ar
def CondL (C : Ex → Prop) (g : Ex → Ex) : List Ex → Prop
  | [] => True
  | e :: r => CondE C g e ∧ CondL C g r
end
theorem cond_mem {C : Ex → Prop} {g : Ex → Ex} : ∀ {l : List Ex} {e : Ex}, CondL C g l → e ∈ l → CondE C g e
  | [], _, _, h => by simp at h
  | a :: r, e, hw, h => by
    rcases List.mem_cons.1 h with q | q
    · subst q; exact hw.1
    · exact cond_mem hw.2 q
theorem cond_true {C : Ex → Prop} {g : Ex → Ex} (h : ∀ e, C e) : ∀ (m : Nat) (e : Ex), e.sz ≤ m → CondE C g e
  | 0, .mk op n v ar, hs => by simp [Ex.sz] at hs
  | m + 1, .mk op n v ar, hs => by
    refine ⟨h _, ?_⟩
    have : ∀ l : List Ex, (∀ x, x ∈ l → CondE C g x) → CondL C g l := by
      intro l
      induction l with
      | nil => intro _; trivial
      | cons a r ih => intro hl; exact ⟨hl a (by simp), ih fun x hx => hl x (by simp [hx])⟩
    refine this ar fun x hx => cond_true h m x ?_
    have := sz_mem hx
    simp only [Ex.sz] at hs; omega
theorem mapped_all (g : Ex → Ex) (k : Nat) (caps : List PV) (C : Ex → Prop) (hg : ∀ (op n vk vn : Int) (vs : ByteArray) (ar : List Ex) (es : List (List PV)), C (.mk op n ⟨vk, vn, vs⟩ ar) → ar.map Ex.cells = es → PCall Try.prog k (.agg [.int .i64 op, .int .i64 n, .int .i64 vk, .int .i64 vn, .str vs, .sl es] :: caps) fun r => r = [.agg (g (.mk op n ⟨vk, vn, vs⟩ ar)).cells]) :
    ∀ (m : Nat) (e : Ex), e.sz ≤ m → e.wide → CondE C g e → PCall Try.prog 116 [.agg e.cells, .fn k caps] fun r => r = [.agg (mapE g e).cells]
  | 0, .mk op n v ar, h, _, _ => by simp [Ex.sz] at h
  | m + 1, .mk op n v ar, h, hw, hc => by
    rw [cells_mk]
    refine mapped_c g k caps C hg op n v ar _ rfl hw.1 (by rw [← mapL_eq]; exact hc.1) fun x hx => mapped_all g k caps C hg m x ?_ (wide_mem hw.2 hx) (cond_mem hc.2 hx)
    have := sz_mem hx
    simp only [Ex.sz] at h; omega
theorem copy_c (op n vk vn : Int) (vs : ByteArray) (ar : List Ex) (es : List (List PV)) (hes : ar.map Ex.cells = es) (hw : (Ex.mk op n ⟨vk, vn, vs⟩ ar).wide) :
    PCall Try.prog 116 [.agg [.int .i64 op, .int .i64 n, .int .i64 vk, .int .i64 vn, .str vs, .sl es], .fn 117 []] fun r => r = [.agg (mapE id (.mk op n ⟨vk, vn, vs⟩ ar)).cells] := by
  have := mapped_all id 117 [] (fun _ => True) (fun op n vk vn vs ar es _ h => by rw [show id (Ex.mk op n ⟨vk, vn, vs⟩ ar) = Ex.mk op n ⟨vk, vn, vs⟩ ar from rfl, cells_mk, h]; exact same_c op n vk vn vs es) _ _ (Nat.le_refl _) hw (cond_true (fun _ => trivial) _ _ (Nat.le_refl _))
  rw [cells_mk, hes] at this
  exact this
end Go.Proofs.Ytnhmnfokbinplaa

namespace Go.Proofs.Ytnhmnfokbinplaa
open Go Go.RowKit
set_option maxRecDepth 100000
set_option linter.unusedSimpArgs false
set_option linter.unusedVariables false

end Go.Proofs.Ytnhmnfokbinplaa

namespace Go.Proofs.Ytnhmnfokbinplaa
open Go Go.RowKit
set_option maxRecDepth 100000
set_option linter.unusedSimpArgs false
set_option linter.unusedVariables false

/-- An argument told by its parts is the whole. -/
theorem ACall.headK {P : Program} {f : FuncId} {x : AV} {y : PV} {args : List AV} {H : List AObj} {Q : AV → List AObj → Prop} (h : ACall P f (.p y :: args) H Q) (hx : pureX x = some y) : ACall P f (x :: args) H Q :=
  ⟨fun B G w vals wr rv => h.run B G w vals wr ⟨rv.1, fun i z v hz hv => by
    cases i with
    | zero =>
      simp only [List.getElem?_cons_zero, Option.some.injEq] at hz
      subst hz
      rw [pureX_eq] at hx
      exact .p (pure_ok (rv.2 0 x v rfl hv) hx)
    | succ i => exact rv.2 (i + 1) z v hz hv⟩⟩
theorem frameK {P : Program} {cc : FuncId → List AV → List AObj → (AV → List AObj → Prop) → Prop} (hcc : ACall P = cc) {f : FuncId} {args0 args rest : List AV} {x : AV} {y : PV} {H0 H1 H : List AObj} {X : AV} {K : AV → List AObj → Prop} (s : List Nat)
    (h : ACall P f (.p y :: args0) H0 fun r H' => r = X ∧ takeX H' (lenX H1) = H1) (hs : onceX s = true) (hl : lenX H1 = lenX s) (ha : args = x :: rest) (hx : pureX x = some y) (hr : rest = AV.renL s args0) (hH : optL (nth H) s = some (mapX (AObj.ren s) H0)) (hlt : (AV.ltL (lenX s) (.p y :: args0) && ltH (lenX s) H0 && (AV.ltB (lenX s) X && ltH (lenX s) H1)) = true)
    (k : K (AV.ren s X) (backX s s H1 H)) : cc f args H K := by
  subst hcc ha
  rw [lenX_eq s] at hl hlt
  rw [Bool.and_eq_true, Bool.and_eq_true (AV.ltB _ _)] at hlt
  refine ACall.headK ?_ hx
  rw [show (AV.p y :: rest) = AV.renL s (.p y :: args0) by rw [hr]; rfl]
  refine h.frame s hs rfl hH hlt.1 ?_
  rintro r H' ⟨rfl, hH'⟩
  rw [hl] at hH'
  rw [hH']
  exact ⟨hlt.2.1, by rw [← lenX_eq]; exact hl, hlt.2.2, k⟩


end Go.Proofs.Ytnhmnfokbinplaa

namespace Go.Proofs.Ytnhmnfokbinplaa
open Go Go.RowKit
set_option maxRecDepth 100000
set_option linter.unusedSimpArgs false
set_option linter.unusedVariables false

mutual
theorem walk_count : ∀ (e : Ex) (d k h : Int), (walkE e d k h).1 = true → (walkE e d k h).2.1 = k + e.sz
  | .mk op m v ar, d, k, h, hw => by
    rw [walkE] at hw ⊢
    split at hw
    · cases hw
    · rename_i hb
      rw [if_neg hb, walkL_count ar _ _ _ hw, Ex.sz]
      omega
theorem walkL_count : ∀ (l : List Ex) (d k h : Int), (walkL l d k h).1 = true → (walkL l d k h).2.1 = k + szL l
  | [], d, k, h, _ => by simp [walkL, szL]
  | a :: r, d, k, h, hw => by
    have he := walk_count a d k h
    rw [walkL] at hw ⊢
    rcases hx : walkE a d k h with ⟨b, k', h'⟩
    rw [hx] at hw he
    cases b with
    | false => cases hw
    | true =>
      have he2 : k' = k + a.sz := he rfl
      dsimp only at hw ⊢
      rw [walkL_count r d k' h' hw, szL, he2]
      omega
end
theorem built_szK {e : Ex} (hb : builtM e = true) : e.sz ≤ 400 := by
  have hb2 : (sizeM e).1 ≤ 400 := of_decide_eq_true hb
  cases hw : (walkE e 1 0 0).1 with
  | true =>
    rw [sizeM, if_pos hw] at hb2
    have := walk_count e 1 0 0 hw
    have hb3 : (walkE e 1 0 0).2.1 ≤ 400 := hb2
    omega
  | false =>
    rw [sizeM, if_neg (by rw [hw]; decide)] at hb2
    exact absurd hb2 (by decide)
end Go.Proofs.Ytnhmnfokbinplaa

namespace Go.Proofs.Ytnhmnfokbinplaa
open Go Go.RowKit
set_option maxRecDepth 100000
set_option linter.unusedSimpArgs false
set_option linter.unusedVariables false

theorem Ix.giveK {es : Nat} {l : List (List PV)} {n : Int} {K : List PV → Prop} {e : List PV} (h0 : 0 ≤ n) (h : l[n.toNat]? = some e) (he : e.length = es) (hes : es ≠ 0) (k : K e) : Ix es l n K := ⟨⟨e, h0, h, he, hes, k⟩⟩
/- Where a kind may be asked for. -/
/- What the columns of an expression are. -/
end Go.Proofs.Ytnhmnfokbinplaa

namespace Go.Proofs.Ytnhmnfokbinplaa
open Go Go.RowKit
set_option maxRecDepth 100000
set_option linter.unusedSimpArgs false
set_option linter.unusedVariables false

end Go.Proofs.Ytnhmnfokbinplaa

namespace Go.Proofs.Ytnhmnfokbinplaa
open Go Go.RowKit
set_option linter.unusedSimpArgs false
set_option linter.unusedVariables false

def vlenV (a : Val) : Val := if a.k = 2 then num (a.s.size : Int) else Val.zero
def evOp (col : Int → Val) (op n : Int) (v : Val) (l : List Val) : Val :=
  if op = 1 then col n else if op = 2 then clean v
  else if op = 3 then reckon 8 (num 0) ((l[0]?).getD Val.zero)
  else if op = 4 then vnot ((l[0]?).getD Val.zero)
  else if op = 5 then flag (decide (((l[0]?).getD Val.zero).k = 0))
  else if op = 6 then vlenV ((l[0]?).getD Val.zero)
  else if op = 7 ∨ op = 8 ∨ op = 9 ∨ op = 10 ∨ op = 11 then reckon op ((l[0]?).getD Val.zero) ((l[1]?).getD Val.zero)
  else if op = 18 then catV ((l[0]?).getD Val.zero) ((l[1]?).getD Val.zero)
  else if op = 19 ∨ op = 20 then both op ((l[0]?).getD Val.zero) ((l[1]?).getD Val.zero)
  else if op = 21 then (if trueV ((l[0]?).getD Val.zero) = true then (l[1]?).getD Val.zero else (l[2]?).getD Val.zero)
  else testV op ((l[0]?).getD Val.zero) ((l[1]?).getD Val.zero)
mutual
def evalE (col : Int → Val) : Ex → Val
  | .mk op n v ar => evOp col op n v (evalL col ar)
def evalL (col : Int → Val) : List Ex → List Val
  | [] => []
  | e :: r => evalE col e :: evalL col r
end
theorem evalL_eq (col : Int → Val) : ∀ l : List Ex, evalL col l = l.map (evalE col)
  | [] => rfl
  | e :: r => by simp [evalL, evalL_eq col r]

theorem built_iff (e : Ex) : builtM e = (walkE e 1 0 0).1 := by
  unfold builtM sizeM
  cases hb : (walkE e 1 0 0).1 with
  | false => simp
  | true =>
    have := walkE_nodes e 1 0 0 _ _ _ (by omega) (by omega) (show walkE e 1 0 0 = (true, (walkE e 1 0 0).2.1, (walkE e 1 0 0).2.2) by rw [← hb])
    simp; exact (this.2.2 rfl).2
/-! ### a copy -/
theorem clean_clean (v : Val) : clean (clean v) = clean v := by
  unfold clean; split <;> (try split) <;> simp_all [Val.zero]
mutual
theorem eval_copy (col : Int → Val) : ∀ e : Ex, evalE col (mapE id e) = evalE col e
  | .mk op m v ar => by
    rw [mapE]
    show evalE col (.mk op _ _ (mapL id ar)) = _
    rw [evalE, evalE, evalL_copy col ar]
    unfold evOp
    by_cases h1 : op = 1
    · simp [h1]
    · by_cases h2 : op = 2
      · simp [h2, clean_clean]
      · simp only [h1, h2, if_false]
theorem evalL_copy (col : Int → Val) : ∀ l : List Ex, evalL col (mapL id l) = evalL col l
  | [] => by simp [mapL]
  | a :: r => by rw [mapL, evalL, evalL, eval_copy col a, evalL_copy col r]
end

def evalM (col : Int → Val) (e : Ex) : Val := if builtM e = true then evalE col e else Val.zero
/- All parts are true just where the whole is. -/
end Go.Proofs.Ytnhmnfokbinplaa

namespace Go.Proofs.Ytnhmnfokbinplaa
open Go Go.RowKit
set_option linter.unusedSimpArgs false
set_option linter.unusedVariables false

theorem arity_ops {op : Int} {n : Nat} (h : arityE op = (n : Int)) : 1 ≤ op ∧ op ≤ 21 := by
  unfold arityE at h
  split at h
  · omega
  · split at h
    · omega
    · split at h
      · omega
      · split at h <;> omega
theorem badE_arity {op n : Int} {v : Val} {k : Nat} (h : badE op n v k = false) : arityE op = (k : Int) := by
  simp only [badE, Bool.or_eq_false_iff, Bool.not_eq_false', decide_eq_true_eq] at h
  exact h.1.1

end Go.Proofs.Ytnhmnfokbinplaa

namespace Go.Proofs.Ytnhmnfokbinplaa
open Go Go.RowKit
set_option linter.unusedSimpArgs false
set_option linter.unusedVariables false

mutual
def Ex.ht : Ex → Nat
  | .mk _ _ _ ar => htL ar + 1
def htL : List Ex → Nat
  | [] => 0
  | e :: r => max e.ht (htL r)
end
mutual
def goodE : Ex → Bool
  | .mk op n v ar => !badE op n v ar.length && goodL ar
def goodL : List Ex → Bool
  | [] => true
  | e :: r => goodE e && goodL r
end
theorem goodL_all : ∀ l : List Ex, goodL l = l.all goodE
  | [] => rfl
  | e :: r => by simp [goodL, goodL_all r]
theorem sz_pos : ∀ e : Ex, 0 < e.sz
  | .mk _ _ _ _ => by simp [Ex.sz]
theorem ht_pos : ∀ e : Ex, 0 < e.ht
  | .mk _ _ _ _ => by simp [Ex.ht]
theorem mx_max (a b : Int) : mx a b = max a b := by unfold mx; split <;> omega

mutual
theorem walkE_eq : ∀ (e : Ex) (d n h : Int), 0 ≤ n → (((walkE e d n h).1 = true ↔ (goodE e = true ∧ n + (e.sz : Int) ≤ 400 ∧ d + (e.ht : Int) ≤ 41)) ∧ ((walkE e d n h).1 = true → walkE e d n h = (true, n + (e.sz : Int), max h (d + (e.ht : Int) - 1))))
  | .mk op m v ar, d, n, h, h0 => by
    rw [walkE]
    have hs := sz_pos (.mk op m v ar)
    have hh := ht_pos (.mk op m v ar)
    simp only [Ex.sz, Ex.ht] at hs hh
    simp only [goodE, Ex.sz, Ex.ht, Bool.and_eq_true, Bool.not_eq_true']
    split
    · rename_i hc
      simp only [Bool.or_eq_true, decide_eq_true_eq] at hc
      refine ⟨⟨fun h => (by cases h), fun h => ?_⟩, fun h => by cases h⟩
      obtain ⟨⟨h1, h2⟩, h3, h4⟩ := h
      rcases hc with (hc | hc) | hc
      · omega
      · omega
      · rw [h1] at hc; cases hc
    · rename_i hc
      simp only [Bool.or_eq_true, decide_eq_true_eq, not_or] at hc
      have hb : badE op m v ar.length = false := by simpa using hc.2
      have ih := walkL_eq ar (d + 1) (n + 1) (mx h d) (by omega) (by omega) (by omega) (by rw [mx_max]; omega)
      refine ⟨ih.1.trans ⟨fun ⟨a, b, c⟩ => ⟨⟨hb, a⟩, by omega, by omega⟩, fun ⟨⟨_, a⟩, b, c⟩ => ⟨a, by omega, by omega⟩⟩, fun ht => ?_⟩
      rw [ih.2 ht, mx_max]
      simp only [Prod.mk.injEq, true_and]
      omega
theorem walkL_eq : ∀ (l : List Ex) (d n h : Int), 0 ≤ n → n ≤ 400 → d ≤ 41 → d - 1 ≤ h → (((walkL l d n h).1 = true ↔ (goodL l = true ∧ n + (szL l : Int) ≤ 400 ∧ d + (htL l : Int) ≤ 41)) ∧ ((walkL l d n h).1 = true → walkL l d n h = (true, n + (szL l : Int), max h (d + (htL l : Int) - 1))))
  | [], d, n, h, h0, h1, h2, h3 => by
    simp only [walkL, goodL, szL, htL, true_iff, true_and, true_implies, Prod.mk.injEq]
    omega
  | a :: r, d, n, h, h0, h1, h2, h3 => by
    have ia := walkE_eq a d n h h0
    have hs := sz_pos a
    rw [walkL]
    simp only [goodL, szL, htL, Bool.and_eq_true]
    rcases h4 : walkE a d n h with ⟨b1, n1, h5⟩
    cases b1 with
    | false =>
      rw [h4] at ia
      refine ⟨⟨fun h => (by cases h), fun h => ?_⟩, fun h => by cases h⟩
      obtain ⟨⟨p, q⟩, u, v⟩ := h
      have := ia.1.2 ⟨p, by omega, by omega⟩
      cases this
    | true =>
      rw [h4] at ia
      have e := ia.2 rfl
      simp only [Prod.mk.injEq, true_and] at e
      obtain ⟨e1, e2⟩ := e
      have i1 := ia.1.1 rfl
      have ir := walkL_eq r d n1 h5 (by omega) (by omega) h2 (by omega)
      refine ⟨ir.1.trans ⟨fun ⟨p, q, u⟩ => ⟨⟨i1.1, p⟩, by omega, by omega⟩, fun ⟨⟨_, p⟩, q, u⟩ => ⟨p, by omega, by omega⟩⟩, fun ht => ?_⟩
      show walkL r d n1 h5 = _
      rw [ir.2 ht]
      simp only [Prod.mk.injEq, true_and]
      omega
end
theorem built_eq (e : Ex) : builtM e = true ↔ (goodE e = true ∧ e.sz ≤ 400 ∧ e.ht ≤ 40) := by
  rw [built_iff]
  have := (walkE_eq e 1 0 0 (by omega)).1
  rw [this]
  constructor
  · rintro ⟨a, b, c⟩; exact ⟨a, by omega, by omega⟩
  · rintro ⟨a, b, c⟩; exact ⟨a, by omega, by omega⟩
/-! ### values are clean, their texts are short -/
def cleanV (v : Val) : Prop := clean v = v
theorem clean_num (n : Int) : cleanV (num n) := by simp [cleanV, clean, num]
theorem clean_zero : cleanV Val.zero := by simp [cleanV, clean, Val.zero]
theorem clean_flag (b : Bool) : cleanV (flag b) := clean_num _
theorem clean_optNum (o : Option Int) : cleanV (optNum o) := by cases o <;> simp [optNum, clean_num, clean_zero]
theorem clean_reckon (op : Int) (a b : Val) : cleanV (reckon op a b) := by unfold reckon; split <;> simp [clean_optNum, clean_zero]
theorem clean_not (a : Val) : cleanV (vnot a) := by unfold vnot; split <;> simp [clean_flag, clean_zero]
theorem clean_len (a : Val) : cleanV (vlenV a) := by unfold vlenV; split <;> simp [clean_num, clean_zero]
theorem clean_cat (a b : Val) : cleanV (catV a b) := by unfold catV; split <;> simp [cleanV, clean, Val.zero]
theorem clean_both (op : Int) (a b : Val) : cleanV (both op a b) := by unfold both; (repeat' split) <;> simp [clean_flag, clean_zero]
theorem clean_test (op : Int) (a b : Val) : cleanV (testV op a b) := by unfold testV; split <;> simp [clean_flag, clean_zero]
theorem clean_getD {l : List Val} (h : ∀ x, x ∈ l → cleanV x) (i : Nat) : cleanV ((l[i]?).getD Val.zero) := by
  cases hi : l[i]? with
  | none => exact clean_zero
  | some x => exact h x (List.mem_of_getElem? hi)
theorem clean_evOp {col : Int → Val} (hc : ∀ i, cleanV (col i)) (op n : Int) (v : Val) {l : List Val} (h : ∀ x, x ∈ l → cleanV x) : cleanV (evOp col op n v l) := by
  unfold evOp
  repeat' split
  all_goals first | exact hc _ | exact clean_clean v | exact clean_reckon _ _ _ | exact clean_not _ | exact clean_flag _ | exact clean_len _ | exact clean_cat _ _ | exact clean_both _ _ _ | exact clean_getD h _ | exact clean_test _ _ _
mutual
theorem clean_ev {col : Int → Val} (hc : ∀ i, cleanV (col i)) : ∀ e : Ex, cleanV (evalE col e)
  | .mk op n v ar => by rw [evalE]; exact clean_evOp hc op n v (clean_evL hc ar)
theorem clean_evL {col : Int → Val} (hc : ∀ i, cleanV (col i)) : ∀ (l : List Ex) (x : Val), x ∈ evalL col l → cleanV x
  | [], x, h => by simp [evalL] at h
  | e :: r, x, h => by
    simp only [evalL, List.mem_cons] at h
    rcases h with h | h
    · rw [h]; exact clean_ev hc e
    · exact clean_evL hc r x h
end
/-! ### folding -/
def Ex.val : Ex → Val
  | .mk _ _ v _ => v
def zeroE : Ex := .mk 0 0 Val.zero []
def nN (op n : Int) : Int := if op = 1 then n else 0
def nV (op : Int) (v : Val) : Val := if op = 1 then Val.zero else if op = 2 then clean v else Val.zero
theorem mapE_mk (g : Ex → Ex) (op n : Int) (v : Val) (ar : List Ex) : mapE g (.mk op n v ar) = g (.mk op (nN op n) (nV op v) (ar.map (mapE g))) := by rw [mapE, mapL_eq]; rfl
theorem evOp_norm (col : Int → Val) (op n : Int) (v : Val) (l : List Val) : evOp col op (nN op n) (nV op v) l = evOp col op n v l := by
  unfold evOp nN nV
  by_cases h1 : op = 1
  · simp [h1]
  · by_cases h2 : op = 2
    · simp [h2, clean_clean]
    · simp only [h1, h2, if_false]
theorem evOp_col (col col' : Int → Val) {op : Int} (h : ¬ op = 1) (n : Int) (v : Val) (l : List Val) : evOp col op n v l = evOp col' op n v l := by
  unfold evOp; simp only [h, if_false]
theorem good_of_built {e : Ex} (h : builtM e = true) : goodE e = true := ((built_eq e).1 h).1
end Go.Proofs.Ytnhmnfokbinplaa

namespace Go.Proofs.Ytnhmnfokbinplaa
open Go Go.RowKit
set_option linter.unusedSimpArgs false
set_option linter.unusedVariables false

mutual
def colsM : Ex → List Int
  | .mk op n v ar => colsL ar ++ (if op = 1 then [n] else [])
def colsL : List Ex → List Int
  | [] => []
  | e :: r => colsM e ++ colsL r
end
mutual
theorem cols_sz : ∀ e : Ex, (colsM e).length ≤ e.sz
  | .mk op n v ar => by
    have := cols_szL ar
    simp only [colsM, Ex.sz, List.length_append]
    split <;> simp <;> omega
theorem cols_szL : ∀ l : List Ex, (colsL l).length ≤ szL l
  | [] => by simp [colsL]
  | e :: r => by
    have := cols_sz e
    have := cols_szL r
    simp only [colsL, szL, List.length_append]; omega
end
mutual
theorem cols_pos : ∀ e : Ex, goodE e = true → ∀ n, n ∈ colsM e → 0 ≤ n
  | .mk op m v ar, hg, n, hn => by
    simp only [goodE, Bool.and_eq_true, Bool.not_eq_true'] at hg
    simp only [colsM, List.mem_append] at hn
    rcases hn with hn | hn
    · exact cols_posL ar hg.2 n hn
    · split at hn
      · rename_i h1; subst h1
        simp only [List.mem_singleton] at hn; subst hn
        have := hg.1
        simp only [badE, Bool.or_eq_false_iff, Bool.and_eq_false_iff, decide_eq_false_iff_not] at this
        rcases this.1.2 with h | h
        · exact absurd trivial h
        · omega
      · simp at hn
theorem cols_posL : ∀ l : List Ex, goodL l = true → ∀ n, n ∈ colsL l → 0 ≤ n
  | [], _, n, h => by simp [colsL] at h
  | e :: r, hg, n, h => by
    simp only [goodL, Bool.and_eq_true] at hg
    simp only [colsL, List.mem_append] at h
    rcases h with h | h
    · exact cols_pos e hg.1 n h
    · exact cols_posL r hg.2 n h
end
def putN (by' : List Ex) : Ex → Ex
  | .mk op n v ar => if op = 1 then mapE id ((by'[n.toNat]?).getD zeroE) else .mk op n v ar
/-- What the columns of a row are. -/
def colOf (row : List Val) (n : Int) : Val := if (row.length : Int) ≤ n then Val.zero else clean ((row[n.toNat]?).getD Val.zero)
theorem colOf_clean (row : List Val) (n : Int) : cleanV (colOf row n) := by
  unfold colOf; split
  · exact clean_zero
  · exact clean_clean _

mutual
theorem put_ev (row : List Val) (by' : List Ex) (hb : ∀ b, b ∈ by' → builtM b = true) : ∀ e : Ex, goodE e = true → (∀ n, n ∈ colsM e → n < by'.length) →
    evalE (colOf row) (mapE (putN by') e) = evalE (colOf (by'.map (evalM (colOf row)))) e
  | .mk op n v ar, hg, hc => by
    have hpos := cols_pos _ hg
    simp only [goodE, Bool.and_eq_true, Bool.not_eq_true'] at hg
    rw [mapE_mk]
    by_cases h1 : op = 1
    · subst h1
      have hn : n ∈ colsM (.mk 1 n v ar) := by simp [colsM]
      have h0 := hpos n hn
      have hlt := hc n hn
      have hlt' : n.toNat < by'.length := by omega
      simp only [putN, if_true, nN]
      rw [List.getElem?_eq_getElem hlt', Option.getD_some, eval_copy, evalE]
      simp only [evOp, if_true]
      unfold colOf
      rw [if_neg (by rw [List.length_map]; omega), List.getElem?_map, List.getElem?_eq_getElem hlt']
      simp only [Option.map_some, Option.getD_some]
      have hbb := hb _ (List.getElem_mem hlt')
      simp only [evalM, hbb, if_true]
      exact (clean_ev (colOf_clean row) _).symm
    · simp only [putN, h1, if_false]
      rw [evalE, evalE, evOp_norm, evOp_col (colOf row) (colOf (by'.map (evalM (colOf row)))) h1]
      have : evalL (colOf row) (ar.map (mapE (putN by'))) = evalL (colOf (by'.map (evalM (colOf row)))) ar := by
        rw [← mapL_eq]
        exact put_evL row by' hb ar hg.2 (fun n hn => hc n (by simp [colsM, hn]))
      rw [this]
theorem put_evL (row : List Val) (by' : List Ex) (hb : ∀ b, b ∈ by' → builtM b = true) : ∀ l : List Ex, goodL l = true → (∀ n, n ∈ colsL l → n < by'.length) →
    evalL (colOf row) (mapL (putN by') l) = evalL (colOf (by'.map (evalM (colOf row)))) l
  | [], _, _ => rfl
  | e :: r, hg, hc => by
    simp only [goodL, Bool.and_eq_true] at hg
    rw [mapL, evalL, evalL, put_ev row by' hb e hg.1 (fun n hn => hc n (by simp [colsL, hn])), put_evL row by' hb r hg.2 (fun n hn => hc n (by simp [colsL, hn]))]
end
/-- Put: what it makes, and how it is refused. -/
def putOk (e : Ex) (by' : List Ex) : Bool := builtM e && by'.all builtM && (colsM e).all (fun n => decide (n < (by'.length : Int)))
def zeroX : Ex := .mk 0 0 Val.zero []
def putM (e : Ex) (by' : List Ex) : Ex × Int :=
  if putOk e by' = true then (if builtM (mapE (putN by') e) = true then (mapE (putN by') e, 0) else (zeroX, 3)) else (zeroX, 1)
theorem put_law (row : List Val) (e : Ex) (by' : List Ex) (h : (putM e by').2 = 0) : evalM (colOf row) (putM e by').1 = evalM (colOf (by'.map (evalM (colOf row)))) e := by
  unfold putM at h ⊢
  split at h
  · rename_i hok
    split at h
    · rename_i hbt
      rw [if_pos hok, if_pos hbt]
      unfold putOk at hok
      simp only [Bool.and_eq_true] at hok
      have hbe := hok.1.1
      simp only [evalM, hbe, hbt, if_true]
      exact put_ev row by' (fun b hb => List.all_eq_true.1 hok.1.2 b hb) e (good_of_built hbe) (fun n hn => by have := List.all_eq_true.1 hok.2 n hn; simpa using this)
    · cases h
  · cases h
end Go.Proofs.Ytnhmnfokbinplaa

namespace Go.Proofs.Ytnhmnfokbinplaa
open Go Go.RowKit
set_option maxRecDepth 100000
set_option linter.unusedSimpArgs false
set_option linter.unusedVariables false

def colS (g n : Nat) (C : List (List PV)) : List AObj := [.cells [.vec 1 g 1 0 n], .vec g C 1]
def post1 (op m : Int) (L : List Int) : List Int := if op = 1 then L ++ [m] else L
theorem okEs_i64c (l : List Int) : okEs 1 (l.map i64c) = true := by
  simp only [okEs, List.all_map, List.all_eq_true]
  intro e _
  simp [i64c, PV.one]
theorem one_s (op m vk vn : Int) (vs : ByteArray) (es : List (List PV)) (g n : Nat) (L : List Int) (C : List (List PV)) (hC : L.map i64c = C) (hn : C.length = n) (hsz : n ≤ 1000000)
    (g' n' : Nat) (C' : List (List PV)) (hC' : (post1 op m L).map i64c = C') (hn' : C'.length = n') (hg' : g + (if op = 1 then 1 else 0) = g') : ACall Try.prog 143 [.p (.agg [.int .i64 op, .int .i64 m, .int .i64 vk, .int .i64 vn, .str vs, .sl es]), .ref 0 0] (colS g n C) fun r H' => r = .tup [] ∧ takeX H' 2 = colS g' n' C' := by
  by_cases hop : op = 1
  · rw [if_pos hop] at hg'
    have hC2 : C ++ [[.int .i64 m]] = C' := by rw [← hC', post1, if_pos hop, List.map_append, hC]; rfl
    have hok : okEs 1 (C.take n) = true := by rw [← hn, List.take_length, ← hC]; exact okEs_i64c _
    have sd : n + 1 ≤ maxLen ∧ (n + 1) * 8 ≤ 140737488355328 := by rw [maxLen_eq]; omega
    refine ACall.x (nt := 11) (res := []) mixed tt_ok [] Try.func143 rfl rfl rfl c143 (Nat.le_of_ble_eq_true rfl) ?_
    intro cp cc lp Q' hcp hcc hlp hQ
    repeat' (first
      | (with_reducible refine Nm.mk ?_; intro z hz)
      | (with_reducible refine IfB.mk ?_ ?_ <;> (intro h; cases h))
      | (with_reducible refine Two.l ?_; refine Asm.mk ?_ ?_; focus (decide +kernel))
      | (with_reducible refine Two.r ?_)
      | (with_reducible refine Asm.mk ?_ ?_; focus (first | kernel_rfl | decide))
      | (with_reducible refine Asm.mk2 ?_ ?_)
      | ((fail_if_success (with_reducible first | refine hQ _ _ ?_ | refine Side.mk ?_ | refine isCP hcp ?_ | refine isCC hcc ?_ | refine isLP hlp ?_ | refine Ix.mk ?_ | refine SIx.mk ?_ | refine SEx.mk ?_ | refine EIx.mk ?_ | refine RIx.mk ?_ | show False | refine hR ?_ _ ?_ ?_ ?_ ?_ ?_ | refine hR2 ?_ _ ?_ ?_ ?_ ?_ ?_)); cbv))
    · exact Side.mk ⟨rfl, rfl, rfl, by omega, hok, rfl, sd.1, sd.2⟩
    · rename_i g2 hg2 n2 hn2
      have e3 : z = C' := by rw [← hz, ← hC2, ← hn, List.take_length]
      have e2 : n2 = n' := by
        rw [← hn', ← hC2, ← hn2, List.length_append, ← hn]
      have e1 : g2 = g' := by omega
      subst e1 e2 e3
      exact hQ _ _ ⟨rfl, rfl⟩
    · exact absurd hop (by simpa using hz)
  · rw [if_neg hop] at hg'
    have hp : post1 op m L = L := by rw [post1, if_neg hop]
    rw [hp, hC] at hC'
    subst hC'
    rw [hn] at hn'
    subst hn'
    have hg2 : g = g' := by omega
    subst hg2
    clear hg' hp
    refine ACall.x (nt := 11) (res := []) mixed tt_ok [] Try.func143 rfl rfl rfl c143 (Nat.le_of_ble_eq_true rfl) ?_
    intro cp cc lp Q' hcp hcc hlp hQ
    repeat' (first
      | (with_reducible refine Nm.mk ?_; intro z hz)
      | (with_reducible refine IfB.mk ?_ ?_ <;> (intro h; cases h))
      | (with_reducible refine Two.l ?_; refine Asm.mk ?_ ?_; focus (decide +kernel))
      | (with_reducible refine Two.r ?_)
      | (with_reducible refine Asm.mk ?_ ?_; focus (first | kernel_rfl | decide))
      | (with_reducible refine Asm.mk2 ?_ ?_)
      | ((fail_if_success (with_reducible first | refine hQ _ _ ?_ | refine Side.mk ?_ | refine isCP hcp ?_ | refine isCC hcc ?_ | refine isLP hlp ?_ | refine Ix.mk ?_ | refine SIx.mk ?_ | refine SEx.mk ?_ | refine EIx.mk ?_ | refine RIx.mk ?_ | show False | refine hR ?_ _ ?_ ?_ ?_ ?_ ?_ | refine hR2 ?_ _ ?_ ?_ ?_ ?_ ?_)); cbv))
    · exact absurd (of_decide_eq_true (by assumption)) hop
    · exact absurd (of_decide_eq_true (by assumption)) hop
    · exact hQ _ _ ⟨rfl, rfl⟩

def EachS (e : Ex) : Prop := ∀ (cells : List PV) (g n : Nat) (L : List Int) (C : List (List PV)), e.cells = cells → L.map i64c = C → C.length = n → n + e.sz ≤ 1000000 →
  ∀ (g' n' : Nat) (C' : List (List PV)), (L ++ colsM e).map i64c = C' → C'.length = n' → g + (colsM e).length = g' → ACall Try.prog 142 [.p (.agg cells), .fn 143 [.ref 0 0]] (colS g n C) fun r H' => r = .tup [] ∧ takeX H' 2 = colS g' n' C'
set_option maxHeartbeats 2000000 in
theorem each_s (op m vk vn : Int) (vs : ByteArray) (ar : List Ex) (es : List (List PV)) (hes : ar.map Ex.cells = es) (hal : ar.length ≤ 140737488355328) (IH : ∀ x, x ∈ ar → EachS x) (g n : Nat) (L : List Int) (C : List (List PV)) (hC : L.map i64c = C) (hn : C.length = n) (hsz : n + (szL ar + 1) ≤ 1000000)
    (g' n' : Nat) (C' : List (List PV)) (hC' : (L ++ colsM (.mk op m ⟨vk, vn, vs⟩ ar)).map i64c = C') (hn' : C'.length = n') (hg' : g + (colsM (.mk op m ⟨vk, vn, vs⟩ ar)).length = g') : ACall Try.prog 142 [.p (.agg [.int .i64 op, .int .i64 m, .int .i64 vk, .int .i64 vn, .str vs, .sl es]), .fn 143 [.ref 0 0]] (colS g n C) fun r H' => r = .tup [] ∧ takeX H' 2 = colS g' n' C' := by
  have hel : es.length = ar.length := by rw [← hes]; simp
  have hLn : L.length = n := by rw [← hn, ← hC]; simp
  rw [colsM] at hC' hg'
  have hpl := cols_szL ar
  refine ACall.x (nt := 20) (res := []) mixed tt_ok [] Try.func142 rfl rfl rfl c142 (Nat.le_of_ble_eq_true rfl) ?_
  intro cp cc lp Q' hcp hcc hlp hQ
  repeat' (first
    | (with_reducible refine Nm.mk ?_; intro z hz)
    | (with_reducible refine IfB.mk ?_ ?_ <;> (intro h; cases h))
    | (with_reducible refine Two.l ?_; refine Asm.mk ?_ ?_; focus (decide +kernel))
    | (with_reducible refine Two.r ?_)
    | (with_reducible refine Asm.mk ?_ ?_; focus (first | kernel_rfl | decide))
    | (with_reducible refine Asm.mk2 ?_ ?_)
    | ((fail_if_success (with_reducible first | refine hQ _ _ ?_ | refine Side.mk ?_ | refine isCP hcp ?_ | refine isCC hcc ?_ | refine isLP hlp ?_ | refine Ix.mk ?_ | refine SIx.mk ?_ | refine SEx.mk ?_ | refine EIx.mk ?_ | refine RIx.mk ?_ | show False | refine hR ?_ _ ?_ ?_ ?_ ?_ ?_ | refine hR2 ?_ _ ?_ ?_ ?_ ?_ ?_)); cbv))
  simp only [nc] at hz
  simp only [nc'] at hz
  have hzl := lenZ (n := ar.length) hel hz
  clear hz
  generalize z = zl at *
  refine loopT (ι := Int × Nat × Nat × List (List PV) × List Int) mixed tt_ok hcp hcc hlp [1, 2, 7, 8] (fun p => [(9, .p (.int .i64 p.1))]) (fun p => [.cells [.vec 1 p.2.1 1 0 p.2.2.1], .vec p.2.1 p.2.2.2.1 1, .cells [.p (.int .i64 op), .p (.int .i64 m), .p (.int .i64 vk), .p (.int .i64 vn), .p (.str vs), .p (.sl es)]])
    (fun p => Rng ar.length zl p.1 ∧ p.2.2.2.2.map i64c = p.2.2.2.1 ∧ p.2.2.2.1.length = p.2.2.1 ∧ p.2.2.2.2 ++ colsL (ar.drop p.1.toNat) = L ++ colsL ar ∧ p.2.1 + (colsL (ar.drop p.1.toNat)).length = g + (colsL ar).length ∧ p.2.2.1 + szL (ar.drop p.1.toNat) ≤ 999999) (fun p => (zl - p.1).toNat) (0, g, n, C, L) 3 (fun _ => rfl) ⟨Rng.start hzl (by omega), hC, hn, rfl, rfl, by show n + szL ar ≤ 999999; omega⟩ ⟨rfl, trivial⟩ rfl ?_
  rintro R ⟨i, g1, n1, C1, L1⟩ ⟨rg, hC1, hn1, hL1, hg1, hs1⟩ hR
  replace rg : Rng ar.length zl i := rg
  replace hC1 : L1.map i64c = C1 := hC1
  replace hn1 : C1.length = n1 := hn1
  replace hL1 : L1 ++ colsL (ar.drop i.toNat) = L ++ colsL ar := hL1
  replace hg1 : g1 + (colsL (ar.drop i.toNat)).length = g + (colsL ar).length := hg1
  replace hs1 : n1 + szL (ar.drop i.toNat) ≤ 999999 := hs1
  have hLn1 : L1.length = n1 := by rw [← hn1, ← hC1]; simp
  have hpc : ∀ (op' m' vk' vn' : Int) (vs' : ByteArray) (ar' : List Ex) (es' : List (List PV)), ar[i.toNat]? = some (.mk op' m' ⟨vk', vn', vs'⟩ ar') → ar'.map Ex.cells = es' → ∃ g2 n2 C2 L2, (L1 ++ colsM (.mk op' m' ⟨vk', vn', vs'⟩ ar')) = L2 ∧ L2.map i64c = C2 ∧ C2.length = n2 ∧ g1 + (colsM (.mk op' m' ⟨vk', vn', vs'⟩ ar')).length = g2 ∧ n2 + szL (ar.drop (i + 1).toNat) ≤ 999999 ∧
      ACall Try.prog 142 [.p (.agg [.int .i64 op', .int .i64 m', .int .i64 vk', .int .i64 vn', .str vs', .sl es']), .fn 143 [.ref 0 0]] (colS g1 n1 C1) fun r H' => r = .tup [] ∧ takeX H' 2 = colS g2 n2 C2 := by
    intro op' m' vk' vn' vs' ar' es' hx he
    have hd := rg.step hx
    rw [hd, szL] at hs1
    refine ⟨_, _, _, _, rfl, rfl, rfl, rfl, ?_, IH _ (List.mem_of_getElem? hx) _ g1 n1 L1 C1 (by rw [cells_mk, he]) hC1 hn1 (by omega) _ _ _ rfl rfl rfl⟩
    have := cols_sz (.mk op' m' ⟨vk', vn', vs'⟩ ar')
    rw [List.length_map, List.length_append]; omega
  have hlast : decide (i < zl) = false → ACall Try.prog 143 [.p (.agg [.int .i64 op, .int .i64 m, .int .i64 vk, .int .i64 vn, .str vs, .sl es]), .ref 0 0] (colS g1 n1 C1) fun r H' => r = .tup [] ∧ takeX H' 2 = colS g' n' C' := by
    intro h
    have hd := rg.end_ rfl h
    rw [hd, colsL, List.append_nil] at hL1
    rw [hd] at hg1
    refine one_s op m vk vn vs es g1 n1 L1 C1 hC1 hn1 (by omega) g' n' C' ?_ hn' ?_
    · rw [← hC', post1, hL1, ← List.append_assoc]
      by_cases hop : op = 1
      · rw [if_pos hop, if_pos hop]
      · rw [if_neg hop, if_neg hop, List.append_nil]
    · rw [← hg', List.length_append]
      simp only [colsL, List.length_nil] at hg1
      by_cases hop : op = 1
      · rw [if_pos hop, if_pos hop]; simp; omega
      · rw [if_neg hop, if_neg hop]; simp; omega
  repeat' (first
    | (with_reducible refine Nm.mk ?_; intro z hz)
    | (with_reducible refine IfB.mk ?_ ?_ <;> (intro h; cases h))
    | (with_reducible refine Two.l ?_; refine Asm.mk ?_ ?_; focus (decide +kernel))
    | (with_reducible refine Two.r ?_)
    | (with_reducible refine Asm.mk ?_ ?_; focus (show (_ : Bool) = true; kernel_rfl))
    | (with_reducible refine Ix.ex hes rg.lo (rg.lt (by assumption)) ?_; intro op' m' vk' vn' vs' ar' es' hx hes')
    | (with_reducible refine isCC hcc ?_; obtain ⟨g2, n2, C2, L2, q1, q2, q3, q4, q5, hcall⟩ := hpc _ _ _ _ _ _ _ hx hes'; refine frameK (H1 := colS g2 n2 C2) hcc [0, 1] hcall rfl rfl rfl rfl rfl rfl rfl ?_)
    | (with_reducible refine isCC hcc ?_; refine frameK (H1 := colS g' n' C') hcc [0, 1] (hlast (by assumption)) rfl rfl rfl rfl rfl rfl rfl ?_)
    | (with_reducible refine Asm.mk2 ?_ ?_)
    | ((fail_if_success (with_reducible first | refine hQ _ _ ?_ | refine Side.mk ?_ | refine isCP hcp ?_ | refine isCC hcc ?_ | refine isLP hlp ?_ | refine Ix.mk ?_ | refine SIx.mk ?_ | refine SEx.mk ?_ | refine EIx.mk ?_ | refine RIx.mk ?_ | show False | refine hR ?_ _ ?_ ?_ ?_ ?_ ?_ | refine hR2 ?_ _ ?_ ?_ ?_ ?_ ?_)); cbv))
  · have hlt : decide (i < zl) = true := by assumption
    rw [rg.wrap hlt] at hz
    have hd := rg.step hx
    rw [hd, colsL] at hL1 hg1
    exact hR (i + 1, g2, n2, C2, L2) _ ⟨rg.next hlt, q2, q3, by show L2 ++ _ = _; rw [← q1, ← hL1, List.append_assoc], by show g2 + (colsL (ar.drop (i + 1).toNat)).length = _; rw [← hg1, ← q4, List.length_append]; omega, q5⟩ (rg.less hlt) ⟨hz ▸ rfl, trivial⟩ ⟨rfl, rfl, rfl, rfl, trivial⟩ rfl
  · exact hQ _ _ ⟨rfl, rfl⟩
theorem each_sall : ∀ (k : Nat) (e : Ex), e.sz ≤ k → e.wide → EachS e
  | 0, .mk op m v ar, h, _ => by simp [Ex.sz] at h
  | k + 1, .mk op m ⟨vk, vn, vs⟩ ar, h, hw => by
    intro cells g n L C he hC hn hsz g' n' C' h1 h2 h3
    rw [cells_mk] at he
    subst he
    have hwi : wideN ar.length ∧ wideL ar := by rw [Ex.wide] at hw; exact hw
    have hwn : wideN ar.length := hwi.1
    unfold wideN at hwn
    rw [Ex.sz] at hsz
    refine each_s op m vk vn vs ar _ rfl (by omega) (fun x hx => each_sall k x ?_ (wide_mem hwi.2 hx)) g n L C hC hn hsz g' n' C' h1 h2 h3
    have := sz_mem hx
    simp only [Ex.sz] at h; omega
end Go.Proofs.Ytnhmnfokbinplaa

namespace Go.Proofs.Ytnhmnfokbinplaa
open Go Go.RowKit
set_option maxRecDepth 100000
set_option linter.unusedSimpArgs false
set_option linter.unusedVariables false

theorem Ix.el {L : List (List PV)} {es : Nat} {i : Int} {K : List PV → Prop} (n : Nat) {e : List PV} (hi : 0 ≤ i) (hn : i.toNat = n) (h : L[n]? = some e) (he : e.length = es) (hes : es ≠ 0) (k : K e) : Ix es L i K := ⟨e, hi, by rw [hn]; exact h, he, hes, k⟩

abbrev oneW (f L : PV) : PV := .fn 167 [.ip [f], .ip [L]]
abbrev twoW (f L : PV) : PV := .fn 169 [.ip [f], .ip [L]]
abbrev byW (f : PV) (cells : List PV) (L : PV) : PV := twoW (.fn 171 [.ip [f], .ip cells]) L

/-- one, two, by: what they hand back. -/
theorem one_c (k : Nat) (caps : List PV) (L : List (List PV)) : PCall Try.prog 166 [.fn k caps, .ip [.sl L]] fun r => r = [oneW (.fn k caps) (.sl L)] := by
  refine PCall.x (nt := 5) (res := [.tmp 3]) mixed tt_ok [] Try.func166 rfl rfl rfl c166 (Nat.le_of_ble_eq_true rfl) ?_
  intro cp cc lp Q' hcp hcc hlp hQ
  repeat' (first
    | (with_reducible refine Nm.mk ?_; intro z hz)
    | (with_reducible refine IfB.mk ?_ ?_ <;> (intro h; cases h))
    | (with_reducible refine Two.l ?_; refine Asm.mk ?_ ?_; focus (decide +kernel))
    | (with_reducible refine Two.r ?_)
    | (with_reducible refine Asm.mk ?_ ?_; focus (first | kernel_rfl | decide))
    | (with_reducible refine Asm.mk2 ?_ ?_)
    | ((fail_if_success (with_reducible first | refine hQ _ ?_ | refine Side.mk ?_ | refine isCP hcp ?_ | refine isCC hcc ?_ | refine isLP hlp ?_ | refine Ix.mk ?_ | refine SIx.mk ?_ | refine SEx.mk ?_ | refine EIx.mk ?_ | refine RIx.mk ?_ | show False | refine hR ?_ _ ?_ ?_ ?_ ?_ ?_ | refine hR2 ?_ _ ?_ ?_ ?_ ?_ ?_)); cbv))
  all_goals (refine hQ _ ?_; clear hQ hcp hcc hlp; subst_vars; simp_all [oneW])
theorem two_c (k : Nat) (caps : List PV) (L : List (List PV)) : PCall Try.prog 168 [.fn k caps, .ip [.sl L]] fun r => r = [twoW (.fn k caps) (.sl L)] := by
  refine PCall.x (nt := 5) (res := [.tmp 3]) mixed tt_ok [] Try.func168 rfl rfl rfl c168 (Nat.le_of_ble_eq_true rfl) ?_
  intro cp cc lp Q' hcp hcc hlp hQ
  repeat' (first
    | (with_reducible refine Nm.mk ?_; intro z hz)
    | (with_reducible refine IfB.mk ?_ ?_ <;> (intro h; cases h))
    | (with_reducible refine Two.l ?_; refine Asm.mk ?_ ?_; focus (decide +kernel))
    | (with_reducible refine Two.r ?_)
    | (with_reducible refine Asm.mk ?_ ?_; focus (first | kernel_rfl | decide))
    | (with_reducible refine Asm.mk2 ?_ ?_)
    | ((fail_if_success (with_reducible first | refine hQ _ ?_ | refine Side.mk ?_ | refine isCP hcp ?_ | refine isCC hcc ?_ | refine isLP hlp ?_ | refine Ix.mk ?_ | refine SIx.mk ?_ | refine SEx.mk ?_ | refine EIx.mk ?_ | refine RIx.mk ?_ | show False | refine hR ?_ _ ?_ ?_ ?_ ?_ ?_ | refine hR2 ?_ _ ?_ ?_ ?_ ?_ ?_)); cbv))
  all_goals (refine hQ _ ?_; clear hQ hcp hcc hlp; subst_vars; simp_all [twoW])
theorem by_c (k : Nat) (caps : List PV) (cells : List PV) (L : List (List PV)) : PCall Try.prog 170 [.fn k caps, .ip [.fn 168 [.ip [.sl L]]], .ip cells] fun r => r = [byW (.fn k caps) cells (.sl L)] := by
  refine PCall.x (nt := 8) (res := [.tmp 4]) mixed tt_ok [(168, [0])] Try.func170 rfl rfl rfl c170 (Nat.le_of_ble_eq_true rfl) ?_
  intro cp cc lp Q' hcp hcc hlp hQ
  repeat' (first
    | (with_reducible refine Nm.mk ?_; intro z hz)
    | (with_reducible refine IfB.mk ?_ ?_ <;> (intro h; cases h))
    | (with_reducible refine Two.l ?_; refine Asm.mk ?_ ?_; focus (decide +kernel))
    | (with_reducible refine Two.r ?_)
    | (with_reducible refine Asm.mk ?_ ?_; focus (first | kernel_rfl | decide))
    | (with_reducible refine isCP hcp ?_; first | (refine xP hcp (two_c _ _ _) ?_; skip))
    | (with_reducible refine isCC hcc ?_; first | (refine xA hcc (two_c _ _ _) rfl ?_; skip))
    | (with_reducible refine Asm.mk2 ?_ ?_)
    | ((fail_if_success (with_reducible first | refine hQ _ ?_ | refine Side.mk ?_ | refine isCP hcp ?_ | refine isCC hcc ?_ | refine isLP hlp ?_ | refine Ix.mk ?_ | refine SIx.mk ?_ | refine SEx.mk ?_ | refine EIx.mk ?_ | refine RIx.mk ?_ | show False | refine hR ?_ _ ?_ ?_ ?_ ?_ ?_ | refine hR2 ?_ _ ?_ ?_ ?_ ?_ ?_)); cbv))
  exact hQ _ rfl

/-- What a worker of one part, of two, does. -/
theorem run1_c (kf : Nat) (cf : List PV) (k0 : Nat) (c0 : List PV) (kc : Nat) (cc0 : List PV) (L : List (List PV)) (h0 : L[0]? = some [.fn k0 c0]) (a b : Val)
    (ha : PCall Try.prog k0 (.fn kc cc0 :: c0) fun r => r = [a.enc]) (hb : PCall Try.prog kf (a.enc :: cf) fun r => r = [b.enc]) :
    PCall Try.prog 167 [.fn kc cc0, .ip [.fn kf cf], .ip [.sl L]] fun r => r = [b.enc] := by
  have hb' : ∀ v : Val, a = v → PCall Try.prog kf (.agg [.int .i64 v.k, .int .i64 v.n, .str v.s] :: cf) fun r => r = [b.enc] := by rintro v rfl; exact hb
  refine PCall.x (nt := 12) (res := [.cell 4 25]) mixed tt_ok [] Try.func167 rfl rfl rfl c167 (Nat.le_of_ble_eq_true rfl) ?_
  intro cp cc lp Q' hcp hcc hlp hQ
  repeat' (first
    | (with_reducible refine Nm.mk ?_; intro z hz)
    | (with_reducible refine IfB.mk ?_ ?_ <;> (intro h; cases h))
    | (with_reducible refine Two.l ?_; refine Asm.mk ?_ ?_; focus (decide +kernel))
    | (with_reducible refine Two.r ?_)
    | (with_reducible refine Asm.mk ?_ ?_; focus kernel_rfl)
    | (with_reducible refine isCP hcp ?_; first | (refine vP hcp (ha) ?_; intro v hv) | (refine vP hcp (hb' _ (by assumption)) ?_; intro v hv))
    | (with_reducible refine isCC hcc ?_; first | (refine vA hcc (ha) rfl ?_; intro v hv) | (refine vA hcc (hb' _ (by assumption)) rfl ?_; intro v hv))
    | (with_reducible refine Ix.el 0 (by decide) rfl h0 rfl (by decide) ?_)
    | (with_reducible refine Asm.mk2 ?_ ?_)
    | ((fail_if_success (with_reducible first | refine hQ _ ?_ | refine Side.mk ?_ | refine isCP hcp ?_ | refine isCC hcc ?_ | refine isLP hlp ?_ | refine Ix.mk ?_ | refine SIx.mk ?_ | refine SEx.mk ?_ | refine EIx.mk ?_ | refine RIx.mk ?_ | show False | refine hR ?_ _ ?_ ?_ ?_ ?_ ?_ | refine hR2 ?_ _ ?_ ?_ ?_ ?_ ?_)); cbv))
  all_goals (refine hQ _ ?_; clear hQ hcp hcc hlp ha hb hb'; subst_vars; rfl)
theorem run2_c (kf : Nat) (cf : List PV) (k0 : Nat) (c0 : List PV) (k1 : Nat) (c1 : List PV) (kc : Nat) (cc0 : List PV) (L : List (List PV)) (h0 : L[0]? = some [.fn k0 c0]) (h1 : L[1]? = some [.fn k1 c1]) (a b c : Val)
    (ha : PCall Try.prog k0 (.fn kc cc0 :: c0) fun r => r = [a.enc]) (hb : PCall Try.prog k1 (.fn kc cc0 :: c1) fun r => r = [b.enc]) (hc : PCall Try.prog kf (a.enc :: b.enc :: cf) fun r => r = [c.enc]) :
    PCall Try.prog 169 [.fn kc cc0, .ip [.fn kf cf], .ip [.sl L]] fun r => r = [c.enc] := by
  have hc' : ∀ v w : Val, a = v → b = w → PCall Try.prog kf (.agg [.int .i64 v.k, .int .i64 v.n, .str v.s] :: .agg [.int .i64 w.k, .int .i64 w.n, .str w.s] :: cf) fun r => r = [c.enc] := by rintro v w rfl rfl; exact hc
  refine PCall.x (nt := 17) (res := [.cell 4 25]) mixed tt_ok [] Try.func169 rfl rfl rfl c169 (Nat.le_of_ble_eq_true rfl) ?_
  intro cp cc lp Q' hcp hcc hlp hQ
  repeat' (first
    | (with_reducible refine Nm.mk ?_; intro z hz)
    | (with_reducible refine IfB.mk ?_ ?_ <;> (intro h; cases h))
    | (with_reducible refine Two.l ?_; refine Asm.mk ?_ ?_; focus (decide +kernel))
    | (with_reducible refine Two.r ?_)
    | (with_reducible refine Asm.mk ?_ ?_; focus kernel_rfl)
    | (with_reducible refine isCP hcp ?_; first | (refine vP hcp (ha) ?_; intro v hv) | (refine vP hcp (hb) ?_; intro v hv) | (refine vP hcp (hc' _ _ (by assumption) (by assumption)) ?_; intro v hv))
    | (with_reducible refine isCC hcc ?_; first | (refine vA hcc (ha) rfl ?_; intro v hv) | (refine vA hcc (hb) rfl ?_; intro v hv) | (refine vA hcc (hc' _ _ (by assumption) (by assumption)) rfl ?_; intro v hv))
    | (with_reducible refine Ix.el 0 (by decide) rfl h0 rfl (by decide) ?_)
    | (with_reducible refine Ix.el 1 (by decide) rfl h1 rfl (by decide) ?_)
    | (with_reducible refine Asm.mk2 ?_ ?_)
    | ((fail_if_success (with_reducible first | refine hQ _ ?_ | refine Side.mk ?_ | refine isCP hcp ?_ | refine isCC hcc ?_ | refine isLP hlp ?_ | refine Ix.mk ?_ | refine SIx.mk ?_ | refine SEx.mk ?_ | refine EIx.mk ?_ | refine RIx.mk ?_ | show False | refine hR ?_ _ ?_ ?_ ?_ ?_ ?_ | refine hR2 ?_ _ ?_ ?_ ?_ ?_ ?_)); cbv))
  all_goals (refine hQ _ ?_; clear hQ hcp hcc hlp ha hb hc hc'; subst_vars; rfl)
theorem runBy_c (kf : Nat) (cf : List PV) (op n k m : Int) (s : ByteArray) (es : List (List PV)) (a b c : Val) (hc : PCall Try.prog kf (.int .i64 op :: a.enc :: b.enc :: cf) fun r => r = [c.enc]) :
    PCall Try.prog 171 [a.enc, b.enc, .ip [.fn kf cf], .ip [.int .i64 op, .int .i64 n, .int .i64 k, .int .i64 m, .str s, .sl es]] fun r => r = [c.enc] := by
  obtain ⟨ak, an, as'⟩ := a
  obtain ⟨bk', bn, bs⟩ := b
  have hb3 : ∀ {x y z : AV} {p q r : PV} {cs : List PV}, pureX x = some p → pureX y = some q → pureX z = some r → optL pureX (catX [x, y, z] (mapX .p cs)) = some (p :: q :: r :: cs) := by
    intro x y z p q r cs h1 h2 h3
    show optL pureX (x :: y :: z :: mapX .p cs) = _
    simp only [optL, h1, h2, h3, pure_p]
  simp only [Val.enc] at hc
  refine PCall.x (nt := 13) (res := [.cell 6 25]) mixed tt_ok [] Try.func171 rfl rfl rfl c171 (Nat.le_of_ble_eq_true rfl) ?_
  intro cp cc lp Q' hcp hcc hlp hQ
  repeat' (first
    | (with_reducible refine Nm.mk ?_; intro z hz)
    | (with_reducible refine IfB.mk ?_ ?_ <;> (intro h; cases h))
    | (with_reducible refine Two.l ?_; refine Asm.mk ?_ ?_; focus (decide +kernel))
    | (with_reducible refine Two.r ?_)
    | (with_reducible refine Asm.mk ?_ ?_; focus kernel_rfl)
    | (with_reducible refine isCC hcc ?_; refine vA hcc hc (hb3 rfl rfl rfl) ?_; intro v hv)
    | (with_reducible refine Asm.mk2 ?_ ?_)
    | ((fail_if_success (with_reducible first | refine hQ _ ?_ | refine Side.mk ?_ | refine isCP hcp ?_ | refine isCC hcc ?_ | refine isLP hlp ?_ | refine Ix.mk ?_ | refine SIx.mk ?_ | refine SEx.mk ?_ | refine EIx.mk ?_ | refine RIx.mk ?_ | show False | refine hR ?_ _ ?_ ?_ ?_ ?_ ?_ | refine hR2 ?_ _ ?_ ?_ ?_ ?_ ?_)); cbv))
  all_goals (refine hQ _ ?_; clear hQ hcp hcc hlp hc hb3; subst_vars; rfl)
theorem run3_c (k0 : Nat) (c0 : List PV) (k1 : Nat) (c1 : List PV) (k2 : Nat) (c2 : List PV) (kc : Nat) (cc0 : List PV) (L : List (List PV)) (h0 : L[0]? = some [.fn k0 c0]) (h1 : L[1]? = some [.fn k1 c1]) (h2 : L[2]? = some [.fn k2 c2]) (a b c : Val)
    (ha : PCall Try.prog k0 (.fn kc cc0 :: c0) fun r => r = [a.enc]) (hb : PCall Try.prog k1 (.fn kc cc0 :: c1) fun r => r = [b.enc]) (hc : PCall Try.prog k2 (.fn kc cc0 :: c2) fun r => r = [c.enc]) :
    PCall Try.prog 178 [.fn kc cc0, .ip [.sl L]] fun r => r = [(if trueV a = true then b else c).enc] := by
  have ht : ∀ v : Val, a = v → PCall Try.prog 57 [.agg [.int .i64 v.k, .int .i64 v.n, .str v.s]] fun r => r = [.bool (trueV a)] := by rintro v rfl; exact true_c _ _ _
  refine PCall.x (nt := 20) (res := [.cell 3 25]) mixed tt_ok [] Try.func178 rfl rfl rfl c178 (Nat.le_of_ble_eq_true rfl) ?_
  intro cp cc lp Q' hcp hcc hlp hQ
  repeat' (first
    | (with_reducible refine Nm.mk ?_; intro z hz)
    | (with_reducible refine IfB.mk ?_ ?_ <;> (intro h; cases h))
    | (with_reducible refine Two.l ?_; refine Asm.mk ?_ ?_; focus (decide +kernel))
    | (with_reducible refine Two.r ?_)
    | (with_reducible refine Asm.mk ?_ ?_; focus kernel_rfl)
    | (with_reducible refine isCP hcp ?_; first | (refine bP hcp (ht _ (by assumption)) ?_; intro z hz))
    | (with_reducible refine isCC hcc ?_; first | (refine bA hcc (ht _ (by assumption)) rfl ?_; intro z hz))
    | (with_reducible refine Ix.el 0 (by decide) rfl h0 rfl (by decide) ?_)
    | (with_reducible refine Ix.el 1 (by decide) rfl h1 rfl (by decide) ?_)
    | (with_reducible refine Ix.el 2 (by decide) rfl h2 rfl (by decide) ?_)
    | (with_reducible refine isCC hcc ?_; first | (refine vA hcc ha (hb1 rfl) ?_; intro v hv) | (refine vA hcc hb (hb1 rfl) ?_; intro v hv) | (refine vA hcc hc (hb1 rfl) ?_; intro v hv))
    | (with_reducible refine Asm.mk2 ?_ ?_)
    | ((fail_if_success (with_reducible first | refine hQ _ ?_ | refine Side.mk ?_ | refine isCP hcp ?_ | refine isCC hcc ?_ | refine isLP hlp ?_ | refine Ix.mk ?_ | refine SIx.mk ?_ | refine SEx.mk ?_ | refine EIx.mk ?_ | refine RIx.mk ?_ | show False | refine hR ?_ _ ?_ ?_ ?_ ?_ ?_ | refine hR2 ?_ _ ?_ ?_ ?_ ?_ ?_)); cbv))
  all_goals (refine hQ _ ?_; clear hQ hcp hcc hlp ha hb hc ht; simp_all [Val.enc])

/-- The small ones. -/
theorem flagk_c (b : Bool) : PCall Try.prog 172 [.bool b] fun r => r = [(flag b).enc] := by
  refine PCall.x (nt := 6) (res := [.cell 2 25]) mixed tt_ok [] Try.func172 rfl rfl rfl c172 (Nat.le_of_ble_eq_true rfl) ?_
  intro cp cc lp Q' hcp hcc hlp hQ
  repeat' (first
    | (with_reducible refine Nm.mk ?_; intro z hz)
    | (with_reducible refine IfB.mk ?_ ?_ <;> (intro h; cases h))
    | (with_reducible refine Two.l ?_; refine Asm.mk ?_ ?_; focus (decide +kernel))
    | (with_reducible refine Two.r ?_)
    | (with_reducible refine Asm.mk ?_ ?_; focus (first | kernel_rfl | decide))
    | (with_reducible refine Asm.mk2 ?_ ?_)
    | ((fail_if_success (with_reducible first | refine hQ _ ?_ | refine Side.mk ?_ | refine isCP hcp ?_ | refine isCC hcc ?_ | refine isLP hlp ?_ | refine Ix.mk ?_ | refine SIx.mk ?_ | refine SEx.mk ?_ | refine EIx.mk ?_ | refine RIx.mk ?_ | show False | refine hR ?_ _ ?_ ?_ ?_ ?_ ?_ | refine hR2 ?_ _ ?_ ?_ ?_ ?_ ?_)); cbv))
  all_goals (refine hQ _ ?_; clear hQ hcp hcc hlp; subst_vars; simp_all [flag, num, Val.enc])
theorem colW_c (kc : Nat) (cc0 : List PV) (op n k m : Int) (s : ByteArray) (es : List (List PV)) (a : Val) (ha : PCall Try.prog kc (.int .i64 n :: cc0) fun r => r = [a.enc]) :
    PCall Try.prog 173 [.fn kc cc0, .ip [.int .i64 op, .int .i64 n, .int .i64 k, .int .i64 m, .str s, .sl es]] fun r => r = [a.enc] := by
  refine PCall.x (nt := 8) (res := [.cell 3 25]) mixed tt_ok [] Try.func173 rfl rfl rfl c173 (Nat.le_of_ble_eq_true rfl) ?_
  intro cp cc lp Q' hcp hcc hlp hQ
  repeat' (first
    | (with_reducible refine Nm.mk ?_; intro z hz)
    | (with_reducible refine IfB.mk ?_ ?_ <;> (intro h; cases h))
    | (with_reducible refine Two.l ?_; refine Asm.mk ?_ ?_; focus (decide +kernel))
    | (with_reducible refine Two.r ?_)
    | (with_reducible refine Asm.mk ?_ ?_; focus kernel_rfl)
    | (with_reducible refine isCC hcc ?_; refine vA hcc ha (hb1 rfl) ?_; intro v hv)
    | (with_reducible refine Asm.mk2 ?_ ?_)
    | ((fail_if_success (with_reducible first | refine hQ _ ?_ | refine Side.mk ?_ | refine isCP hcp ?_ | refine isCC hcc ?_ | refine isLP hlp ?_ | refine Ix.mk ?_ | refine SIx.mk ?_ | refine SEx.mk ?_ | refine EIx.mk ?_ | refine RIx.mk ?_ | show False | refine hR ?_ _ ?_ ?_ ?_ ?_ ?_ | refine hR2 ?_ _ ?_ ?_ ?_ ?_ ?_)); cbv))
  all_goals (refine hQ _ ?_; clear hQ hcp hcc hlp ha; subst_vars; rfl)
theorem constW_c (kc : Nat) (cc0 : List PV) (v : Val) : PCall Try.prog 174 [.fn kc cc0, .ip v.cells] fun r => r = [v.enc] := by
  obtain ⟨k, n, s⟩ := v
  simp only [Val.cells]
  refine PCall.x (nt := 5) (res := [.cell 3 25]) mixed tt_ok [] Try.func174 rfl rfl rfl c174 (Nat.le_of_ble_eq_true rfl) ?_
  intro cp cc lp Q' hcp hcc hlp hQ
  repeat' (first
    | (with_reducible refine Nm.mk ?_; intro z hz)
    | (with_reducible refine IfB.mk ?_ ?_ <;> (intro h; cases h))
    | (with_reducible refine Two.l ?_; refine Asm.mk ?_ ?_; focus (decide +kernel))
    | (with_reducible refine Two.r ?_)
    | (with_reducible refine Asm.mk ?_ ?_; focus (first | kernel_rfl | decide))
    | (with_reducible refine Asm.mk2 ?_ ?_)
    | ((fail_if_success (with_reducible first | refine hQ _ ?_ | refine Side.mk ?_ | refine isCP hcp ?_ | refine isCC hcc ?_ | refine isLP hlp ?_ | refine Ix.mk ?_ | refine SIx.mk ?_ | refine SEx.mk ?_ | refine EIx.mk ?_ | refine RIx.mk ?_ | show False | refine hR ?_ _ ?_ ?_ ?_ ?_ ?_ | refine hR2 ?_ _ ?_ ?_ ?_ ?_ ?_)); cbv))
  all_goals (refine hQ _ ?_; rfl)
theorem negW_c (a : Val) (h : -9223372036854775808 ≤ a.n ∧ a.n ≤ 9223372036854775807) : PCall Try.prog 175 [a.enc] fun r => r = [(reckon 8 (num 0) a).enc] := by
  obtain ⟨k, n, s⟩ := a
  have hr := reckon_c 8 1 0 ⟨#[]⟩ k n s (by decide) h
  simp only [Val.enc]
  refine PCall.x (nt := 6) (res := [.cell 2 25]) mixed tt_ok [] Try.func175 rfl rfl rfl c175 (Nat.le_of_ble_eq_true rfl) ?_
  intro cp cc lp Q' hcp hcc hlp hQ
  repeat' (first
    | (with_reducible refine Nm.mk ?_; intro z hz)
    | (with_reducible refine IfB.mk ?_ ?_ <;> (intro h; cases h))
    | (with_reducible refine Two.l ?_; refine Asm.mk ?_ ?_; focus (decide +kernel))
    | (with_reducible refine Two.r ?_)
    | (with_reducible refine Asm.mk ?_ ?_; focus (first | kernel_rfl | decide))
    | (with_reducible refine isCP hcp ?_; first | (refine vP hcp (hr) ?_; intro v hv))
    | (with_reducible refine isCC hcc ?_; first | (refine vA hcc (hr) rfl ?_; intro v hv))
    | (with_reducible refine Asm.mk2 ?_ ?_)
    | ((fail_if_success (with_reducible first | refine hQ _ ?_ | refine Side.mk ?_ | refine isCP hcp ?_ | refine isCC hcc ?_ | refine isLP hlp ?_ | refine Ix.mk ?_ | refine SIx.mk ?_ | refine SEx.mk ?_ | refine EIx.mk ?_ | refine RIx.mk ?_ | show False | refine hR ?_ _ ?_ ?_ ?_ ?_ ?_ | refine hR2 ?_ _ ?_ ?_ ?_ ?_ ?_)); cbv))
  all_goals (refine hQ _ ?_; clear hQ hcp hcc hlp hr; subst_vars; rfl)
theorem nullW_c (a : Val) : PCall Try.prog 176 [a.enc, .ip [.fn 172 []]] fun r => r = [(flag (decide (a.k = 0))).enc] := by
  obtain ⟨k, n, s⟩ := a
  simp only [Val.enc]
  refine PCall.x (nt := 9) (res := [.cell 3 25]) mixed tt_ok [] Try.func176 rfl rfl rfl c176 (Nat.le_of_ble_eq_true rfl) ?_
  intro cp cc lp Q' hcp hcc hlp hQ
  repeat' (first
    | (with_reducible refine Nm.mk ?_; intro z hz)
    | (with_reducible refine IfB.mk ?_ ?_ <;> (intro h; cases h))
    | (with_reducible refine Two.l ?_; refine Asm.mk ?_ ?_; focus (decide +kernel))
    | (with_reducible refine Two.r ?_)
    | (with_reducible refine Asm.mk ?_ ?_; focus (first | kernel_rfl | decide))
    | (with_reducible refine isCP hcp ?_; first | (refine vP hcp (flagk_c _) ?_; intro v hv))
    | (with_reducible refine isCC hcc ?_; first | (refine vA hcc (flagk_c _) rfl ?_; intro v hv))
    | (with_reducible refine Asm.mk2 ?_ ?_)
    | ((fail_if_success (with_reducible first | refine hQ _ ?_ | refine Side.mk ?_ | refine isCP hcp ?_ | refine isCC hcc ?_ | refine isLP hlp ?_ | refine Ix.mk ?_ | refine SIx.mk ?_ | refine SEx.mk ?_ | refine EIx.mk ?_ | refine RIx.mk ?_ | show False | refine hR ?_ _ ?_ ?_ ?_ ?_ ?_ | refine hR2 ?_ _ ?_ ?_ ?_ ?_ ?_)); cbv))
  all_goals (refine hQ _ ?_; clear hQ hcp hcc hlp; subst_vars; rfl)
theorem lenW_c (a : Val) (h : a.s.size ≤ 140737488355328) : PCall Try.prog 177 [a.enc] fun r => r = [(vlenV a).enc] := by
  obtain ⟨k, n, s⟩ := a
  simp only [Val.enc]
  refine PCall.x (nt := 11) (res := [.cell 2 25]) mixed tt_ok [] Try.func177 rfl rfl rfl c177 (Nat.le_of_ble_eq_true rfl) ?_
  intro cp cc lp Q' hcp hcc hlp hQ
  repeat' (first
    | (with_reducible refine Nm.mk ?_; intro z hz)
    | (with_reducible refine IfB.mk ?_ ?_ <;> (intro h; cases h))
    | (with_reducible refine Two.l ?_; refine Asm.mk ?_ ?_; focus (decide +kernel))
    | (with_reducible refine Two.r ?_)
    | (with_reducible refine Asm.mk ?_ ?_; focus (first | kernel_rfl | decide))
    | (with_reducible refine Asm.mk2 ?_ ?_)
    | ((fail_if_success (with_reducible first | refine hQ _ ?_ | refine Side.mk ?_ | refine isCP hcp ?_ | refine isCC hcc ?_ | refine isLP hlp ?_ | refine Ix.mk ?_ | refine SIx.mk ?_ | refine SEx.mk ?_ | refine EIx.mk ?_ | refine RIx.mk ?_ | show False | refine hR ?_ _ ?_ ?_ ?_ ?_ ?_ | refine hR2 ?_ _ ?_ ?_ ?_ ?_ ?_)); cbv))
  all_goals (refine hQ _ ?_; clear hQ hcp hcc hlp; try simp only [nc] at *
             try simp only [nc'] at *
             simp_all [vlenV, num, Val.zero])
end Go.Proofs.Ytnhmnfokbinplaa

namespace Go.Proofs.Ytnhmnfokbinplaa
open Go Go.RowKit
set_option maxRecDepth 100000
set_option linter.unusedSimpArgs false
set_option linter.unusedVariables false

def one2 (f L : PV) : Nat × List PV := (167, [.ip [f], .ip [L]])
def two2 (f L : PV) : Nat × List PV := (169, [.ip [f], .ip [L]])
def by2 (f : PV) (cells : List PV) (L : PV) : Nat × List PV := two2 (.fn 171 [.ip [f], .ip cells]) L
def wkOp (op : Int) (cells : List PV) (v : Val) (L : List (List PV)) : Nat × List PV :=
  if op = 1 then (173, [.ip cells]) else if op = 2 then (174, [.ip (clean v).cells])
  else if op = 3 then one2 (.fn 175 []) (.sl L) else if op = 4 then one2 (.fn 20 []) (.sl L) else if op = 5 then one2 (.fn 176 [.ip [.fn 172 []]]) (.sl L) else if op = 6 then one2 (.fn 177 []) (.sl L)
  else if op = 7 ∨ op = 8 ∨ op = 9 ∨ op = 10 ∨ op = 11 then by2 (.fn 29 []) cells (.sl L) else if op = 18 then two2 (.fn 55 []) (.sl L) else if op = 19 ∨ op = 20 then by2 (.fn 19 []) cells (.sl L)
  else if op = 21 then (178, [.ip [.sl L]]) else by2 (.fn 52 []) cells (.sl L)
mutual
def wk : Ex → Nat × List PV
  | .mk op n v ar => wkOp op (Ex.mk op n v ar).cells v (wkL ar)
def wkL : List Ex → List (List PV)
  | [] => []
  | e :: r => [.fn (wk e).1 (wk e).2] :: wkL r
end
def wkc (e : Ex) : List PV := [.fn (wk e).1 (wk e).2]
theorem wkL_eq : ∀ l : List Ex, wkL l = l.map wkc
  | [] => rfl
  | e :: r => by simp [wkL, wkL_eq r, wkc]

theorem okEs_wkc (l : List Ex) : okEs 1 (l.map wkc) = true := by
  simp only [okEs, List.all_map, List.all_eq_true]
  intro e _
  simp [wkc, PV.one]

section
variable {P : Program} {cp : FuncId → List PV → (CR → Prop) → Prop} {cc : FuncId → List AV → List AObj → (AV → List AObj → Prop) → Prop} {f : FuncId} {args : List PV} {aargs : List AV} {H : List AObj}
theorem fnP (hcp : PC1 P = cp) {X : Nat × List PV} {K : CR → Prop} (h : PCall P f args fun r => r = [.fn X.1 X.2]) (k : ∀ n c, X = (n, c) → K (.pure [.fn n c])) : cp f args K := callP hcp h fun _ e => e ▸ k X.1 X.2 rfl
theorem fnA (hcc : ACall P = cc) {X : Nat × List PV} {K : AV → List AObj → Prop} (h : PCall P f args fun r => r = [.fn X.1 X.2]) (ha : optL pureX aargs = some args) (k : ∀ n c, X = (n, c) → K (.p (.fn n c)) H) : cc f aargs H K := callA hcc ha h fun _ e => e ▸ k X.1 X.2 rfl
end

set_option maxHeartbeats 4000000 in
theorem compile_c (op n : Int) (v : Val) (ar : List Ex) (es : List (List PV)) (hes : ar.map Ex.cells = es) (hs : wideN ar.length)
    (IH : ∀ x, x ∈ ar → PCall Try.prog 118 [.agg x.cells] fun r => r = [.fn (wk x).1 (wk x).2]) :
    PCall Try.prog 118 [.agg [.int .i64 op, .int .i64 n, .int .i64 v.k, .int .i64 v.n, .str v.s, .sl es]] fun r => r = [.fn (wk (.mk op n v ar)).1 (wk (.mk op n v ar)).2] := by
  have hel : es.length = ar.length := by rw [← hes]; simp
  obtain ⟨vk, vn, vs⟩ := v
  obtain ⟨q, hq⟩ : ∃ q, wk (.mk op n ⟨vk, vn, vs⟩ ar) = q := ⟨_, rfl⟩
  rw [hq]
  rw [wk, cells_mk, hes, wkL_eq] at hq
  unfold wideN at hs
  have hmc : ∀ (op' m' vk' vn' : Int) (vs' : ByteArray) (ar' : List Ex) (es' : List (List PV)) (i : Nat), ar[i]? = some (.mk op' m' ⟨vk', vn', vs'⟩ ar') → ar'.map Ex.cells = es' →
      PCall Try.prog 118 [.agg [.int .i64 op', .int .i64 m', .int .i64 vk', .int .i64 vn', .str vs', .sl es']] fun r => r = [.fn (wk (.mk op' m' ⟨vk', vn', vs'⟩ ar')).1 (wk (.mk op' m' ⟨vk', vn', vs'⟩ ar')).2] := by
    intro op' m' vk' vn' vs' ar' es' i hx he
    have := IH _ (List.mem_of_getElem? hx)
    rw [cells_mk, he] at this
    exact this
  refine PCall.x (nt := 77) (res := [.tmp 2]) mixed tt_ok [(166, [1, 4]), (168, [1]), (170, [1, 3, 0])] Try.func118 rfl rfl rfl c118 (Nat.le_of_ble_eq_true rfl) ?_
  intro cp cc lp Q' hcp hcc hlp hQ
  repeat' (first
    | (with_reducible refine Nm.mk ?_; intro z hz)
    | (with_reducible refine IfB.mk ?_ ?_ <;> (intro h; cases h))
    | (with_reducible refine Two.l ?_; refine Asm.mk ?_ ?_; focus (decide +kernel))
    | (with_reducible refine Two.r ?_)
    | (with_reducible refine Asm.mk ?_ ?_; focus (first | kernel_rfl | decide))
    | (with_reducible refine Asm.mk2 ?_ ?_)
    | ((fail_if_success (with_reducible first | refine hQ _ ?_ | refine Side.mk ?_ | refine isCP hcp ?_ | refine isCC hcc ?_ | refine isLP hlp ?_ | refine Ix.mk ?_ | refine SIx.mk ?_ | refine SEx.mk ?_ | refine EIx.mk ?_ | refine RIx.mk ?_ | show False | refine hR ?_ _ ?_ ?_ ?_ ?_ ?_ | refine hR2 ?_ _ ?_ ?_ ?_ ?_ ?_)); cbv))
  simp only [nc] at hz
  simp only [nc'] at hz
  have hzl := hz
  clear hz
  rename Int => zl
  refine mintX hlp 1 1 0 rfl rfl ?_
  refine loopTz [(166, [1, 4]), (168, [1]), (170, [1, 3, 0])] (ι := Int × List (List PV) × Nat) mixed tt_ok hcp hcc hlp [1, 3, 12, 13] (fun p => [(14, .p (.int .i64 p.1))])
    (fun p => [.cells [.p (.int .i64 op), .p (.int .i64 n), .p (.int .i64 vk), .p (.int .i64 vn), .p (.str vs), .p (.sl es)], .cells [.tok 2 p.2.1], .spare p.2.2 1])
    (fun p => 0 ≤ p.1 ∧ p.1 ≤ zl ∧ (ar.take p.1.toNat).map wkc = p.2.1 ∧ p.2.1.length = p.2.2) (fun p => (zl - p.1).toNat)
    (0, [], 0) 3 (fun _ => rfl) ⟨by show (0 : Int) ≤ 0; omega, by show (0 : Int) ≤ zl; omega, by simp, rfl⟩ ⟨rfl, trivial⟩ rfl ?_
  rintro R ⟨i, L, m⟩ ⟨hi0, hi1, hl, hm⟩ hR
  have hi0 : 0 ≤ i := hi0
  have hi1 : i ≤ zl := hi1
  have hl : (ar.take i.toNat).map wkc = L := hl
  have hm : L.length = m := hm
  have hll : L.length ≤ i.toNat := by rw [← hl]; simp; omega
  have hok : okEs 1 L = true := by rw [← hl]; exact okEs_wkc _
  have hk : decide (i < zl) = true → i < ar.length := by simp only [decide_eq_true_eq]; omega
  have hst : decide (i < zl) = true → L.length + 1 ≤ maxLen ∧ (L.length + 1) * 8 ≤ 140737488355328 ∧ IntKind.i64.wrap (i + 1) = i + 1 ∧ (0 ≤ i + 1 ∧ i + 1 ≤ zl) ∧ (zl - (i + 1)).toNat < (zl - i).toNat := by
    intro h
    have hlt := hk h
    simp only [decide_eq_true_eq] at h
    refine ⟨by simp only [maxLen]; omega, by omega, wrap_in (by omega), by omega, by omega⟩
  have hfin : decide (i < zl) = false → ar.map wkc = L := by
    simp only [decide_eq_false_iff_not]; intro h
    rw [← hl, List.take_of_length_le (by omega)]
  repeat' (first
    | (with_reducible refine Nm.mk ?_; intro z hz)
    | (with_reducible refine IfB.mk ?_ ?_ <;> (intro h; cases h))
    | (with_reducible refine Two.l ?_; refine Asm.mk ?_ ?_; focus (decide +kernel))
    | (with_reducible refine Two.r ?_)
    | (with_reducible refine Asm.mk ?_ ?_; focus (first | kernel_rfl | (obtain ⟨u1, u2, u3⟩ := hst (by assumption); exact ⟨hm.symm, rfl, hok, rfl, u1, u2⟩)))
    | (with_reducible refine isCP hcp ?_; first | (refine fnP hcp (hmc _ _ _ _ _ _ _ i.toNat (by assumption) (by assumption)) ?_; intro k2 c2 hX) | (refine vP hcp (clean_c _ _ _) ?_; intro v hv) | (refine xP hcp (one_c _ _ _) ?_; skip) | (refine xP hcp (two_c _ _ _) ?_; skip) | (refine xP hcp (by_c _ _ _ _) ?_; skip))
    | (with_reducible refine isCC hcc ?_; first | (refine fnA hcc (hmc _ _ _ _ _ _ _ i.toNat (by assumption) (by assumption)) rfl ?_; intro k2 c2 hX) | (refine vA hcc (clean_c _ _ _) rfl ?_; intro v hv) | (refine xA hcc (one_c _ _ _) rfl ?_; skip) | (refine xA hcc (two_c _ _ _) rfl ?_; skip) | (refine xA hcc (by_c _ _ _ _) rfl ?_; skip))
    | (with_reducible refine Ix.ex hes hi0 (hk (by assumption)) ?_; intro op' m' vk' vn' vs' ar' es' hx hes')
    | (with_reducible refine Asm.mk2 ?_ ?_)
    | ((fail_if_success (with_reducible first | refine hQ _ ?_ | refine Side.mk ?_ | refine isCP hcp ?_ | refine isCC hcc ?_ | refine isLP hlp ?_ | refine Ix.mk ?_ | refine SIx.mk ?_ | refine SEx.mk ?_ | refine EIx.mk ?_ | refine RIx.mk ?_ | show False | refine hR ?_ _ ?_ ?_ ?_ ?_ ?_ | refine hR2 ?_ _ ?_ ?_ ?_ ?_ ?_)); cbv))
  · refine Side.mk ?_
    obtain ⟨u1, u2, u3⟩ := hst (by assumption)
    exact ⟨hm.symm, rfl, hok, rfl, u1, u2⟩
  · obtain ⟨u1, u2, e1, u3, u4⟩ := hst (by assumption)
    rw [e1] at hz
    rename_i L2 hL2 m2 hm2
    have et : ar.take (i + 1).toNat = ar.take i.toNat ++ [.mk op' m' ⟨vk', vn', vs'⟩ ar'] := by rw [show (i + 1).toNat = i.toNat + 1 by omega, takeS hx]
    refine hR (i + 1, _, _) _ ⟨u3.1, u3.2, ?_, ?_⟩ u4 ⟨hz ▸ rfl, trivial⟩ ⟨rfl, rfl, rfl, rfl, trivial⟩ rfl
    · show (ar.take (i + 1).toNat).map wkc = L2
      rw [et, List.map_append, hl, ← hL2]
      simp only [List.map_cons, List.map_nil, wkc, hX]
    · show L2.length = m2
      rw [← hL2, ← hm2, List.length_append]
  all_goals (refine hQ _ ?_; rw [← hq, hfin (by assumption)]; clear hQ hR hcp hcc hlp hq hfin hst hk hok hmc IH)
  all_goals first
    | (have e := of_decide_eq_true (show decide (op = _) = true by assumption)
       subst e
       subst_vars
       rfl)
    | (unfold wkOp; simp_all; first | rfl | exact ⟨rfl, rfl⟩)
theorem compile_all : ∀ (m : Nat) (e : Ex), e.sz ≤ m → e.wide → PCall Try.prog 118 [.agg e.cells] fun r => r = [.fn (wk e).1 (wk e).2]
  | 0, .mk op n v ar, h, _ => by simp [Ex.sz] at h
  | m + 1, .mk op n v ar, h, hw => by
    rw [cells_mk]
    refine compile_c op n v ar _ rfl hw.1 fun x hx => compile_all m x ?_ (wide_mem hw.2 hx)
    have := sz_mem hx
    simp only [Ex.sz] at h; omega
end Go.Proofs.Ytnhmnfokbinplaa

namespace Go.Proofs.Ytnhmnfokbinplaa
open Go Go.RowKit
set_option maxRecDepth 100000
set_option linter.unusedSimpArgs false
set_option linter.unusedVariables false

/-- What the model's numbers and texts are bounded by. -/
def okV (v : Val) : Prop := (-9223372036854775808 ≤ v.n ∧ v.n ≤ 9223372036854775807) ∧ v.s.size ≤ 140737488355328
theorem okV_zero : okV Val.zero := ⟨by decide, by decide⟩
theorem okV_num {n : Int} (h : -9223372036854775808 ≤ n ∧ n ≤ 9223372036854775807) : okV (num n) := ⟨h, by show (0 : Nat) ≤ _; omega⟩
theorem okV_flag (b : Bool) : okV (flag b) := okV_num (by split <;> decide)
theorem okV_clean {v : Val} (h : okV v) : okV (clean v) := by
  unfold clean
  split
  · exact ⟨h.1, by show (0 : Nat) ≤ _; omega⟩
  · split
    · exact ⟨by show _ ≤ (0 : Int) ∧ (0 : Int) ≤ _; omega, h.2⟩
    · exact okV_zero
theorem okV_opt (o : Option Int) (h : ∀ n, o = some n → -9223372036854775808 ≤ n ∧ n ≤ 9223372036854775807) : okV (optNum o) := by
  cases o with
  | none => exact okV_zero
  | some n => exact okV_num (h n rfl)
theorem in64_some {x n : Int} (h : in64 x = some n) : -9223372036854775808 ≤ n ∧ n ≤ 9223372036854775807 := by
  unfold in64 at h
  split at h
  · rename_i g; simp only [Option.some.injEq] at h; subst h; exact g
  · cases h
theorem okV_vlen {v : Val} (h : okV v) : okV (vlenV v) := by
  unfold vlenV
  split
  · refine okV_num ?_; have := h.2; omega
  · exact okV_zero
theorem okV_cat (a b : Val) : okV (catV a b) := by
  unfold catV
  split
  · exact okV_zero
  · rename_i h
    simp only [not_or, Decidable.not_not, Int.not_lt] at h
    refine ⟨by show _ ≤ (0 : Int) ∧ (0 : Int) ≤ _; omega, ?_⟩
    show (a.s ++ b.s).size ≤ _
    rw [ByteArray.size_append]; omega
theorem okV_not (a : Val) : okV (vnot a) := by unfold vnot; split; exact okV_flag _; exact okV_zero
theorem okV_both (op : Int) (a b : Val) : okV (both op a b) := by unfold both; (repeat' split) <;> first | exact okV_flag _ | exact okV_zero
theorem okV_test (op : Int) (a b : Val) : okV (testV op a b) := by unfold testV; split; exact okV_zero; exact okV_flag _
theorem okV_reckon (op : Int) {a b : Val} (ha : okV a) (hb : okV b) : okV (reckon op a b) := by
  unfold reckon
  split
  · refine okV_opt _ fun n hn => ?_
    have h1 := ha.1
    have h2 := hb.1
    unfold reckN at hn
    split at hn
    · exact in64_some hn
    split at hn
    · exact in64_some hn
    split at hn
    · exact in64_some hn
    split at hn
    · split at hn
      · cases hn
      · exact in64_some hn
    split at hn
    · split at hn
      · cases hn
      · rename_i h0
        simp only [Option.some.injEq] at hn
        subst hn
        have h3 : (a.n.tmod b.n).natAbs ≤ a.n.natAbs := by rw [Int.natAbs_tmod]; exact Nat.mod_le _ _
        have h4 : 0 ≤ a.n → 0 ≤ a.n.tmod b.n := fun h => Int.tmod_nonneg _ h
        have h5 : a.n ≤ 0 → a.n.tmod b.n ≤ 0 := fun h => by
          have := Int.tmod_nonneg b.n (a := -a.n) (by omega)
          rw [Int.neg_tmod] at this; omega
        omega
    · cases hn
  · exact okV_zero

mutual
def Ex.okc : Ex → Prop
  | .mk _ _ v ar => okV v ∧ okcL ar
def okcL : List Ex → Prop
  | [] => True
  | e :: r => e.okc ∧ okcL r
end
theorem okc_mem : ∀ {l : List Ex} {e : Ex}, okcL l → e ∈ l → e.okc
  | [], _, _, h => by simp at h
  | a :: r, e, hw, h => by
    rcases List.mem_cons.1 h with g | g
    · subst g; exact hw.1
    · exact okc_mem hw.2 g
theorem good_mem {l : List Ex} (h : goodL l = true) {e : Ex} (he : e ∈ l) : goodE e = true := by
  rw [goodL_all] at h; exact List.all_eq_true.1 h e he

theorem okV_evOp {col : Int → Val} {op n : Int} {v : Val} {l : List Val} (hc : op = 1 → okV (col n)) (hv : okV v) (hl : ∀ x, x ∈ l → okV x) : okV (evOp col op n v l) := by
  have g : ∀ i : Nat, okV ((l[i]?).getD Val.zero) := by
    intro i
    cases h : l[i]? with
    | none => exact okV_zero
    | some x => exact hl x (List.mem_of_getElem? h)
  unfold evOp
  split
  · rename_i h; exact hc h
  split
  · exact okV_clean hv
  split
  · exact okV_reckon _ (okV_num (by decide)) (g 0)
  split
  · exact okV_not _
  split
  · exact okV_flag _
  split
  · exact okV_vlen (g 0)
  split
  · exact okV_reckon _ (g 0) (g 1)
  split
  · exact okV_cat _ _
  split
  · exact okV_both _ _ _
  split
  · split
    · exact g 1
    · exact g 2
  · exact okV_test _ _ _

/-- What a worker is to give for an expression. -/
def Works (kc : Nat) (cc0 : List PV) (col : Int → Val) (e : Ex) : Prop :=
  okV (evalE col e) ∧ PCall Try.prog (wk e).1 (.fn kc cc0 :: (wk e).2) fun r => r = [(evalE col e).enc]
theorem work_c {kc : Nat} {cc0 : List PV} {col : Int → Val} (op n : Int) (hcol : op = 1 → 0 ≤ n → okV (col n) ∧ PCall Try.prog kc (.int .i64 n :: cc0) fun r => r = [(col n).enc])
     (v : Val) (ar : List Ex) (hb : badE op n v ar.length = false) (hv : okV v) (IH : ∀ x, x ∈ ar → Works kc cc0 col x) : Works kc cc0 col (.mk op n v ar) := by
  have ha := badE_arity hb
  have hop := arity_ops ha
  have hn : op = 1 → 0 ≤ n := by
    intro h
    subst h
    simp only [badE, Bool.or_eq_false_iff, Bool.and_eq_false_iff, decide_eq_false_iff_not] at hb
    rcases hb.1.2 with h | h
    · exact absurd trivial h
    · omega
  refine ⟨?_, ?_⟩
  · rw [evalE, evalL_eq]
    refine okV_evOp (fun h => (hcol h (hn h)).1) hv fun x hx => ?_
    obtain ⟨a, ha', rfl⟩ := List.mem_map.1 hx
    exact (IH a ha').1
  rw [wk, cells_mk, wkL_eq, evalE, evalL_eq]
  have l0 : ∀ a r, (wkc a :: r)[0]? = some [PV.fn (wk a).1 (wk a).2] := fun _ _ => rfl
  by_cases a0 : op = 1 ∨ op = 2
  · rcases a0 with rfl | rfl
    · exact colW_c kc cc0 _ n _ _ _ _ _ (hcol rfl (hn rfl)).2
    · exact constW_c kc cc0 (clean v)
  by_cases a1 : op = 3 ∨ op = 4 ∨ op = 5 ∨ op = 6
  · have hl : ar.length = 1 := by
      rcases a1 with rfl | rfl | rfl | rfl <;> (simp [arityE] at ha; omega)
    match ar, hl, IH with
    | [a], _, IH =>
      obtain ⟨ia, wa⟩ := IH a (by simp)
      rcases a1 with rfl | rfl | rfl | rfl
      · exact run1_c 175 [] _ _ kc cc0 _ rfl _ _ wa (negW_c _ ia.1)
      · exact run1_c 20 [] _ _ kc cc0 _ rfl _ _ wa (not_c _ _ _)
      · exact run1_c 176 _ _ _ kc cc0 _ rfl _ _ wa (nullW_c _)
      · exact run1_c 177 [] _ _ kc cc0 _ rfl _ _ wa (lenW_c _ ia.2)
  by_cases a3 : op = 21
  · have hl : ar.length = 3 := by subst a3; simp [arityE] at ha; omega
    match ar, hl, IH with
    | [a, b, c], _, IH =>
      obtain ⟨ia, wa⟩ := IH a (by simp)
      obtain ⟨ib, wb⟩ := IH b (by simp)
      obtain ⟨ic, wc⟩ := IH c (by simp)
      subst a3
      exact run3_c _ _ _ _ _ _ kc cc0 _ rfl rfl rfl _ _ _ wa wb wc
  have hl : ar.length = 2 := by
    have : arityE op = 2 := by unfold arityE; rw [if_neg a0, if_neg a1, if_neg a3, if_pos (by omega)]
    rw [this] at ha; omega
  match ar, hl, IH with
  | [a, b], _, IH =>
    obtain ⟨ia, wa⟩ := IH a (by simp)
    obtain ⟨ib, wb⟩ := IH b (by simp)
    have two : ∀ (kf : Nat) (cf : List PV) (c : Val), (PCall Try.prog kf ((evalE col a).enc :: (evalE col b).enc :: cf) fun r => r = [c.enc]) → PCall Try.prog 169 [.fn kc cc0, .ip [.fn kf cf], .ip [.sl ([a, b].map wkc)]] fun r => r = [c.enc] :=
      fun kf cf c h => run2_c kf cf _ _ _ _ kc cc0 _ rfl rfl _ _ c wa wb h
    have by' : ∀ (kf : Nat) (c : Val), (PCall Try.prog kf [.int .i64 op, (evalE col a).enc, (evalE col b).enc] fun r => r = [c.enc]) →
        PCall Try.prog 169 [.fn kc cc0, .ip [.fn 171 [.ip [.fn kf []], .ip [.int .i64 op, .int .i64 n, .int .i64 v.k, .int .i64 v.n, .str v.s, .sl ([a, b].map Ex.cells)]]], .ip [.sl ([a, b].map wkc)]] fun r => r = [c.enc] :=
      fun kf c h => two 171 _ c (runBy_c kf [] op n _ _ _ _ _ _ c h)
    by_cases b1 : op = 7 ∨ op = 8 ∨ op = 9 ∨ op = 10 ∨ op = 11
    · have h := by' 29 _ (reckon_c op _ _ _ _ _ _ ia.1 ib.1)
      rcases b1 with rfl | rfl | rfl | rfl | rfl <;> exact h
    by_cases b2 : op = 18
    · subst b2
      exact two 55 [] _ (cat_c _ _ _ _ _ _ (by have := ia.2; omega) (by have := ib.2; omega))
    by_cases b3 : op = 19 ∨ op = 20
    · have h := by' 19 _ (both_c op _ _ _ _ _ _)
      rcases b3 with rfl | rfl <;> exact h
    · have h := by' 52 _ (test_c op _ _ _ _ _ _)
      have : op = 12 ∨ op = 13 ∨ op = 14 ∨ op = 15 ∨ op = 16 ∨ op = 17 := by omega
      rcases this with rfl | rfl | rfl | rfl | rfl | rfl <;> exact h
theorem work_all {kc : Nat} {cc0 : List PV} {col : Int → Val} (hcol : ∀ n, 0 ≤ n → okV (col n) ∧ PCall Try.prog kc (.int .i64 n :: cc0) fun r => r = [(col n).enc]) :
    ∀ (m : Nat) (e : Ex), e.sz ≤ m → goodE e = true → e.okc → Works kc cc0 col e
  | 0, .mk op n v ar, h, _, _ => by simp [Ex.sz] at h
  | m + 1, .mk op n v ar, h, hg, ho => by
    simp only [goodE, Bool.and_eq_true, Bool.not_eq_true'] at hg
    refine work_c op n (fun _ => hcol n) v ar hg.1 ho.1 fun x hx => work_all hcol m x ?_ (good_mem hg.2 hx) (okc_mem ho.2 hx)
    have := sz_mem hx
    simp only [Ex.sz] at h; omega

/-- The columns of a row. -/
theorem rowOf_c (R : List (List PV)) : PCall Try.prog 119 [.sl R] fun r => r = [.fn 179 [.ip [.sl R]]] := by
  refine PCall.x (nt := 4) (res := [.tmp 2]) mixed tt_ok [] Try.func119 rfl rfl rfl c119 (Nat.le_of_ble_eq_true rfl) ?_
  intro cp cc lp Q' hcp hcc hlp hQ
  repeat' (first
    | (with_reducible refine Nm.mk ?_; intro z hz)
    | (with_reducible refine IfB.mk ?_ ?_ <;> (intro h; cases h))
    | (with_reducible refine Two.l ?_; refine Asm.mk ?_ ?_; focus (decide +kernel))
    | (with_reducible refine Two.r ?_)
    | (with_reducible refine Asm.mk ?_ ?_; focus (first | kernel_rfl | decide))
    | (with_reducible refine Asm.mk2 ?_ ?_)
    | ((fail_if_success (with_reducible first | refine hQ _ ?_ | refine Side.mk ?_ | refine isCP hcp ?_ | refine isCC hcc ?_ | refine isLP hlp ?_ | refine Ix.mk ?_ | refine SIx.mk ?_ | refine SEx.mk ?_ | refine EIx.mk ?_ | refine RIx.mk ?_ | show False | refine hR ?_ _ ?_ ?_ ?_ ?_ ?_ | refine hR2 ?_ _ ?_ ?_ ?_ ?_ ?_)); cbv))
  all_goals (refine hQ _ ?_; clear hQ hcp hcc hlp; subst_vars; simp_all [])
theorem rowCol_c (row : List Val) (R : List (List PV)) (hR : row.map Val.cells = R) (n : Int) (h0 : 0 ≤ n) : PCall Try.prog 179 [.int .i64 n, .ip [.sl R]] fun r => r = [(colOf row n).enc] := by
  have hl : R.length = row.length := by rw [← hR]; simp
  have hk : ∀ z : Int, (R.length : Int) = z → decide (z ≤ n) = false → n < row.length := by intro z h g; simp only [decide_eq_false_iff_not] at g; omega
  have hc1 : ∀ z : Int, (R.length : Int) = z → decide (z ≤ n) = true → colOf row n = Val.zero := by
    intro z h g; simp only [decide_eq_true_eq] at g; unfold colOf; rw [if_pos (by omega)]
  have hc2 : ∀ (z : Int) (x : Val), (R.length : Int) = z → decide (z ≤ n) = false → row[n.toNat]? = some x → colOf row n = clean x := by
    intro z x h g hx; simp only [decide_eq_false_iff_not] at g; unfold colOf; rw [if_neg (by omega), hx]; rfl
  refine PCall.x (nt := 14) (res := [.cell 3 25]) mixed tt_ok [] Try.func179 rfl rfl rfl c179 (Nat.le_of_ble_eq_true rfl) ?_
  intro cp cc lp Q' hcp hcc hlp hQ
  repeat' (first
    | (with_reducible refine Nm.mk ?_; intro z hz)
    | (with_reducible refine IfB.mk ?_ ?_ <;> (intro h; cases h))
    | (with_reducible refine Two.l ?_; refine Asm.mk ?_ ?_; focus (decide +kernel))
    | (with_reducible refine Two.r ?_)
    | (with_reducible refine Asm.mk ?_ ?_; focus kernel_rfl)
    | (with_reducible refine isCP hcp ?_; first | (refine vP hcp (clean_c _ _ _) ?_; intro v hv))
    | (with_reducible refine isCC hcc ?_; first | (refine vA hcc (clean_c _ _ _) rfl ?_; intro v hv))
    | (with_reducible refine Ix.map hR cells_len (by decide) h0 (hk _ (by assumption) (by assumption)) ?_; intro x hx)
    | (with_reducible refine Asm.mk2 ?_ ?_)
    | ((fail_if_success (with_reducible first | refine hQ _ ?_ | refine Side.mk ?_ | refine isCP hcp ?_ | refine isCC hcc ?_ | refine isLP hlp ?_ | refine Ix.mk ?_ | refine SIx.mk ?_ | refine SEx.mk ?_ | refine EIx.mk ?_ | refine RIx.mk ?_ | show False | refine hR ?_ _ ?_ ?_ ?_ ?_ ?_ | refine hR2 ?_ _ ?_ ?_ ?_ ?_ ?_)); cbv))
  · refine hQ _ ?_
    rw [hc1 _ (by assumption) (by assumption)]; rfl
  · refine hQ _ ?_
    rw [hc2 _ _ (by assumption) (by assumption) hx]
    clear hQ hcp hcc hlp hk hc1 hc2
    subst_vars; rfl
def rowOk (row : List Val) : Prop := ∀ v, v ∈ row → okV v
theorem okV_colOf {row : List Val} (h : rowOk row) (n : Int) : okV (colOf row n) := by
  unfold colOf
  split
  · exact okV_zero
  · refine okV_clean ?_
    cases hx : row[n.toNat]? with
    | none => exact okV_zero
    | some x => exact h x (List.mem_of_getElem? hx)
theorem eval_c (op n vk vn : Int) (vs : ByteArray) (ar : List Ex) (es : List (List PV)) (hes : ar.map Ex.cells = es) (hw : (Ex.mk op n ⟨vk, vn, vs⟩ ar).wide) (ho : (Ex.mk op n ⟨vk, vn, vs⟩ ar).okc) (row : List Val) (R : List (List PV)) (hR : row.map Val.cells = R) (hr : rowOk row) :
    PCall Try.prog 64 [.agg [.int .i64 op, .int .i64 n, .int .i64 vk, .int .i64 vn, .str vs, .sl es], .sl R] fun r => r = [(evalM (colOf row) (.mk op n ⟨vk, vn, vs⟩ ar)).enc] := by
  have hcm := compile_all _ _ (Nat.le_refl _) hw
  have hrun : builtM (.mk op n ⟨vk, vn, vs⟩ ar) = true → PCall Try.prog (wk (.mk op n ⟨vk, vn, vs⟩ ar)).1 (.fn 179 [.ip [.sl R]] :: (wk (.mk op n ⟨vk, vn, vs⟩ ar)).2) fun r => r = [(evalM (colOf row) (.mk op n ⟨vk, vn, vs⟩ ar)).enc] := by
    intro hb
    have h := (work_all (kc := 179) (cc0 := [.ip [.sl R]]) (col := colOf row) (fun n h => ⟨okV_colOf hr n, rowCol_c row R hR n h⟩) _ _ (Nat.le_refl _) (good_of_built hb) ho).2
    unfold evalM; rw [if_pos hb]; exact h
  have hno : builtM (.mk op n ⟨vk, vn, vs⟩ ar) = false → evalM (colOf row) (.mk op n ⟨vk, vn, vs⟩ ar) = Val.zero := by intro hb; unfold evalM; rw [if_neg (by rw [hb]; decide)]
  have hbt := ebuilt_c op n vk vn vs ar es hes
  rw [cells_mk, hes] at hcm
  obtain ⟨E, hE⟩ : ∃ E, Ex.mk op n ⟨vk, vn, vs⟩ ar = E := ⟨_, rfl⟩
  rw [hE] at hcm hrun hno hbt ⊢
  obtain ⟨b, hb⟩ : ∃ b, builtM E = b := ⟨_, rfl⟩
  rw [hb] at hrun hno hbt
  have hrun' : ∀ k c z, wk E = (k, c) → b = z → (!z) = false → PCall Try.prog k (.fn 179 [.ip [.sl R]] :: c) fun r => r = [(evalM (colOf row) E).enc] := by
    intro k c z hk e hb
    subst e
    have := hrun (by simpa using hb)
    rw [hk] at this
    exact this
  refine PCall.x (nt := 14) (res := [.cell 4 25]) mixed tt_ok [] Try.func64 rfl rfl rfl c64 (Nat.le_of_ble_eq_true rfl) ?_
  intro cp cc lp Q' hcp hcc hlp hQ
  repeat' (first
    | (with_reducible refine Nm.mk ?_; intro z hz)
    | (with_reducible refine IfB.mk ?_ ?_ <;> (intro h; cases h))
    | (with_reducible refine Two.l ?_; refine Asm.mk ?_ ?_; focus (decide +kernel))
    | (with_reducible refine Two.r ?_)
    | (with_reducible refine Asm.mk ?_ ?_; focus kernel_rfl)
    | (with_reducible refine isCP hcp ?_; first | (refine bP hcp (hbt) ?_; intro z hz) | (refine fnP hcp (hcm) ?_; intro k c hX) | (refine xP hcp (rowOf_c _) ?_; skip))
    | (with_reducible refine isCC hcc ?_; first | (refine bA hcc (hbt) rfl ?_; intro z hz) | (refine fnA hcc (hcm) rfl ?_; intro k c hX) | (refine xA hcc (rowOf_c _) rfl ?_; skip))
    | (with_reducible refine isCC hcc ?_; refine vA hcc (hrun' _ _ _ hX (by assumption) (by assumption)) (hb1 rfl) ?_; intro v hv)
    | (with_reducible refine Asm.mk2 ?_ ?_)
    | ((fail_if_success (with_reducible first | refine hQ _ ?_ | refine Side.mk ?_ | refine isCP hcp ?_ | refine isCC hcc ?_ | refine isLP hlp ?_ | refine Ix.mk ?_ | refine SIx.mk ?_ | refine SEx.mk ?_ | refine EIx.mk ?_ | refine RIx.mk ?_ | show False | refine hR ?_ _ ?_ ?_ ?_ ?_ ?_ | refine hR2 ?_ _ ?_ ?_ ?_ ?_ ?_)); cbv))
  · refine hQ _ ?_
    rw [hno (by clear hQ hcp hcc hlp hcm hrun hrun' hbt; simp_all)]; rfl
  · refine hQ _ ?_
    clear hQ hcp hcc hlp hcm hrun hrun' hbt
    subst_vars; rfl
end Go.Proofs.Ytnhmnfokbinplaa

namespace Go.Proofs.Ytnhmnfokbinplaa
open Go Go.RowKit
set_option maxRecDepth 100000
set_option linter.unusedVariables false

theorem cells80 : Try.prog.cellsOf 80 = 6 := by kernel_rfl
theorem cells78 : Try.prog.cellsOf 78 = 1 := by kernel_rfl
theorem bytes80 : Try.prog.bytesOf 80 = 72 := by kernel_rfl
theorem ok_okV {v : Val} (h : v.ok) : okV v := by
  obtain ⟨_, h2, h3⟩ := h
  simp only [Lit.wf, Bool.and_eq_true, decide_eq_true_eq] at h2
  have e1 : IntKind.min .i64 = -9223372036854775808 := by decide
  have e2 : IntKind.max .i64 = 9223372036854775807 := by decide
  have : reachBytes = 140737488351232 := by decide
  exact ⟨by omega, by omega⟩
theorem wideL_of : ∀ {l : List Ex}, (∀ x, x ∈ l → x.wide) → wideL l
  | [], _ => trivial
  | e :: r, h => ⟨h e (by simp), wideL_of (fun x hx => h x (by simp [hx]))⟩
theorem okcL_of : ∀ {l : List Ex}, (∀ x, x ∈ l → x.okc) → okcL l
  | [], _ => trivial
  | e :: r, h => ⟨h e (by simp), okcL_of (fun x hx => h x (by simp [hx]))⟩
theorem exOf : ∀ (n : Nat) (cs : List PV), Fits Try.prog n 80 cs → ∃ e : Ex, e.cells = cs ∧ e.wide ∧ e.okc := by
  intro n
  induction n using Nat.strongRecOn with
  | _ n ih =>
    intro cs h
    obtain ⟨m, rfl, hl, hf⟩ := h.struct Try.underlying80
    rw [cells80] at hl
    obtain ⟨a, b, c, d, e, f, rfl⟩ : ∃ a b c d e f, cs = [a, b, c, d, e, f] := by
      match cs, hl with
      | [a, b, c, d, e, f], _ => exact ⟨a, b, c, d, e, f, rfl⟩
    have h0 : Fits Try.prog m 3 (([a, b, c, d, e, f].drop 0).take (Try.prog.cellsOf 3)) := hf 0 _ rfl
    have h1 : Fits Try.prog m 3 (([a, b, c, d, e, f].drop 1).take (Try.prog.cellsOf 3)) := hf 1 _ rfl
    have h2 : Fits Try.prog m 25 (([a, b, c, d, e, f].drop 2).take (Try.prog.cellsOf 25)) := hf 2 _ rfl
    have h3 : Fits Try.prog m 78 (([a, b, c, d, e, f].drop 5).take (Try.prog.cellsOf 78)) := hf 3 _ rfl
    rw [cells3] at h0 h1
    rw [cells25] at h2
    rw [cells78] at h3
    have h0 : Fits Try.prog m 3 [a] := h0
    have h1 : Fits Try.prog m 3 [b] := h1
    have h2 : Fits Try.prog m 25 [c, d, e] := h2
    have h3 : Fits Try.prog m 78 [f] := h3
    obtain ⟨op, e0, _⟩ := h0.int Try.underlying3
    obtain ⟨nn, e1, _⟩ := h1.int Try.underlying3
    obtain ⟨v, e2, ov⟩ := cellsV h2
    obtain ⟨m', es, rfl, e3, ⟨_, hb⟩, hes⟩ := h3.slice Try.underlying78
    simp only [List.cons.injEq, and_true, Val.cells] at e0 e1 e2 e3
    obtain ⟨rfl, rfl, rfl⟩ := e2
    subst e0 e1 e3
    obtain ⟨l, rfl, hlk⟩ := elems_of (enc := Ex.cells) (ok := fun e => e.wide ∧ e.okc) (fun x hx => by
      obtain ⟨y, hy, h1, h2⟩ := ih m' (by omega) x (hes x hx).2
      exact ⟨y, hy, h1, h2⟩)
    rw [bytes80, List.length_map] at hb
    refine ⟨.mk op nn v l, ?_, ⟨?_, ?_⟩, ok_okV ov, ?_⟩
    · rw [cells_mk]
    · unfold wideN; have : reachBytes = 140737488351232 := by decide
      omega
    · exact wideL_of fun x hx => (hlk x hx).1
    · exact okcL_of fun x hx => (hlk x hx).2
theorem fits80 {n : Nat} {x : PV} (h : FitsA Try.prog n 80 x) : ∃ op m vk vn vs ar, x = .agg [.int .i64 op, .int .i64 m, .int .i64 vk, .int .i64 vn, .str vs, .sl (ar.map Ex.cells)] ∧ (Ex.mk op m ⟨vk, vn, vs⟩ ar).wide ∧ (Ex.mk op m ⟨vk, vn, vs⟩ ar).okc := by
  obtain ⟨cs, rfl, g⟩ := h.agg Try.underlying80
  obtain ⟨⟨op, m, ⟨vk, vn, vs⟩, ar⟩, rfl, h1, h2⟩ := exOf _ _ g
  exact ⟨op, m, vk, vn, vs, ar, by rw [cells_mk], h1, h2⟩
theorem row_ok {l : List Val} (h : ∀ v, v ∈ l → v.ok) : rowOk l := fun v hv => ok_okV (h v hv)
end Go.Proofs.Ytnhmnfokbinplaa

namespace Go.Proofs.Ytnhmnfokbinplaa
open Go Go.RowKit
set_option maxRecDepth 100000
set_option linter.unusedSimpArgs false
set_option linter.unusedVariables false

theorem okV_nV {op : Int} {v : Val} (h : okV v) : okV (nV op v) := by
  unfold nV
  split
  · exact okV_zero
  · split
    · exact okV_clean h
    · exact okV_zero
mutual
theorem okc_copy : ∀ e : Ex, e.okc → (mapE id e).okc
  | .mk op n v ar, h => by
    rw [mapE_mk, ← mapL_eq]
    exact ⟨okV_nV h.1, okc_copyL ar h.2⟩
theorem okc_copyL : ∀ l : List Ex, okcL l → okcL (mapL id l)
  | [], _ => trivial
  | e :: r, h => ⟨okc_copy e h.1, okc_copyL r h.2⟩
end
end Go.Proofs.Ytnhmnfokbinplaa

namespace Go.Proofs.Ytnhmnfokbinplaa
open Go Go.RowKit
set_option maxRecDepth 100000
set_option linter.unusedSimpArgs false
set_option linter.unusedVariables false

/-! ### plain -/
mutual
theorem okV_eval {col : Int → Val} (hc : ∀ n, okV (col n)) : ∀ e : Ex, e.okc → okV (evalE col e)
  | .mk op n v ar, h => by
    rw [evalE]
    exact okV_evOp (fun _ => hc n) h.1 (okV_evalL hc ar h.2)
theorem okV_evalL {col : Int → Val} (hc : ∀ n, okV (col n)) : ∀ l : List Ex, okcL l → ∀ x, x ∈ evalL col l → okV x
  | [], _, x, hx => by simp [evalL] at hx
  | e :: r, h, x, hx => by
    simp only [evalL, List.mem_cons] at hx
    rcases hx with rfl | hx
    · exact okV_eval hc e h.1
    · exact okV_evalL hc r h.2 x hx
end
theorem okc_getD {l : List Ex} (h : okcL l) (i : Nat) : ((l[i]?).getD zeroE).okc := by
  cases hi : l[i]? with
  | none => exact ⟨okV_zero, trivial⟩
  | some x => exact okc_mem h (List.mem_of_getElem? hi)
/-! ### the walk -/
def idxI {α : Type} (p : α → Bool) : List α → Int → Int
  | [], _ => -1
  | x :: r, i => if p x = true then i else idxI p r (i + 1)
theorem idxI_any {α : Type} (p : α → Bool) : ∀ (l : List α) (i : Int), 0 ≤ i → (0 ≤ idxI p l i ↔ l.any p = true)
  | [], i, h => by simp [idxI]
  | x :: r, i, h => by
    rw [idxI, List.any_cons]
    cases hx : p x with
    | true => simp [h]
    | false => simp [idxI_any p r (i + 1) (by omega)]
theorem indexFunc_c (k : Nat) (caps : List PV) (p : Ex → Bool) (ar : List Ex) (es : List (List PV)) (hes : ar.map Ex.cells = es) (hs : wideN ar.length)
    (hp : ∀ e, e ∈ ar → PCall Try.prog k (.agg e.cells :: caps) fun r => r = [.bool (p e)]) : PCall Try.prog 181 [.sl es, .fn k caps] fun r => r = [.int .i64 (idxI p ar 0)] := by
  have hel : es.length = ar.length := by rw [← hes]; simp
  unfold wideN at hs
  obtain ⟨q, hq⟩ : ∃ q, idxI p ar 0 = q := ⟨_, rfl⟩
  rw [hq]
  have hpc : ∀ (op' m' vk' vn' : Int) (vs' : ByteArray) (ar' : List Ex) (es' : List (List PV)) (i : Nat), ar[i]? = some (.mk op' m' ⟨vk', vn', vs'⟩ ar') → ar'.map Ex.cells = es' →
      PCall Try.prog k (.agg [.int .i64 op', .int .i64 m', .int .i64 vk', .int .i64 vn', .str vs', .sl es'] :: caps) fun r => r = [.bool (p (.mk op' m' ⟨vk', vn', vs'⟩ ar'))] := by
    intro op' m' vk' vn' vs' ar' es' i hx he
    have := hp _ (List.mem_of_getElem? hx)
    rw [cells_mk, he] at this
    exact this
  refine PCall.x (nt := 19) (res := [.tmp 4]) mixed tt_ok [] Try.func181 rfl rfl rfl c181 (Nat.le_of_ble_eq_true rfl) ?_
  intro cp cc lp Q' hcp hcc hlp hQ
  repeat' (first
    | (with_reducible refine Nm.mk ?_; intro z hz)
    | (with_reducible refine IfB.mk ?_ ?_ <;> (intro h; cases h))
    | (with_reducible refine Two.l ?_; refine Asm.mk ?_ ?_; focus (decide +kernel))
    | (with_reducible refine Two.r ?_)
    | (with_reducible refine Asm.mk ?_ ?_; focus (first | kernel_rfl | decide))
    | (with_reducible refine Asm.mk2 ?_ ?_)
    | ((fail_if_success (with_reducible first | refine hQ _ ?_ | refine Side.mk ?_ | refine isCP hcp ?_ | refine isCC hcc ?_ | refine isLP hlp ?_ | refine Ix.mk ?_ | refine SIx.mk ?_ | refine SEx.mk ?_ | refine EIx.mk ?_ | refine RIx.mk ?_ | show False | refine hR ?_ _ ?_ ?_ ?_ ?_ ?_ | refine hR2 ?_ _ ?_ ?_ ?_ ?_ ?_)); cbv))
  simp only [nc] at hz
  simp only [nc'] at hz
  have hzl := hz
  clear hz
  rename Int => zl
  refine loopK (ι := Int) mixed tt_ok hcp hcc hlp [0, 1, 7] (fun i => [(8, .p (.int .i64 i))]) (fun i => 0 ≤ i ∧ i ≤ zl ∧ idxI p (ar.drop i.toNat) i = q) (fun i => (zl - i).toNat) 0 (fun _ => rfl) ⟨by omega, by omega, hq⟩ ⟨rfl, trivial⟩ ?_
  rintro R i ⟨hi0, hi1, hiq⟩ hR
  have hk : decide (i < zl) = true → i < ar.length := by simp only [decide_eq_true_eq]; omega
  have hst : decide (i < zl) = true → IntKind.i64.wrap (i + 1) = i + 1 ∧ (0 ≤ i + 1 ∧ i + 1 ≤ zl) ∧ (zl - (i + 1)).toNat < (zl - i).toNat := by
    intro h
    have hlt := hk h
    simp only [decide_eq_true_eq] at h
    exact ⟨wrap_in (by omega), by omega, by omega⟩
  have hstep : ∀ x, ar[i.toNat]? = some x → q = if p x = true then i else idxI p (ar.drop (i + 1).toNat) (i + 1) := by
    intro x hx
    have hlt := (List.getElem?_eq_some_iff.1 hx).1
    rw [← hiq, List.drop_eq_getElem_cons hlt, show (i + 1).toNat = i.toNat + 1 by omega, idxI]
    rw [(List.getElem?_eq_some_iff.1 hx).2]
  have hfin : decide (i < zl) = false → q = -1 := by
    simp only [decide_eq_false_iff_not]; intro h
    rw [← hiq, List.drop_eq_nil_of_le (by omega)]; rfl
  repeat' (first
    | (with_reducible refine Nm.mk ?_; intro z hz)
    | (with_reducible refine IfB.mk ?_ ?_ <;> (intro h; cases h))
    | (with_reducible refine Two.l ?_; refine Asm.mk ?_ ?_; focus (decide +kernel))
    | (with_reducible refine Two.r ?_)
    | (with_reducible refine Asm.mk ?_ ?_; focus kernel_rfl)
    | (with_reducible refine Ix.ex hes hi0 (hk (by assumption)) ?_; intro op' m' vk' vn' vs' ar' es' hx hes')
    | (with_reducible refine isCC hcc ?_; refine bA hcc (hpc _ _ _ _ _ _ _ i.toNat (by assumption) (by assumption)) (hb1 rfl) ?_; intro z hz)
    | (with_reducible refine Asm.mk2 ?_ ?_)
    | ((fail_if_success (with_reducible first | refine hQ _ ?_ | refine Side.mk ?_ | refine isCP hcp ?_ | refine isCC hcc ?_ | refine isLP hlp ?_ | refine Ix.mk ?_ | refine SIx.mk ?_ | refine SEx.mk ?_ | refine EIx.mk ?_ | refine RIx.mk ?_ | show False | refine hR ?_ _ ?_ ?_ ?_ ?_ ?_ | refine hR2 ?_ _ ?_ ?_ ?_ ?_ ?_)); cbv))
  all_goals first
    | (have e := hstep _ hx
       obtain ⟨e1, u, mu⟩ := hst (by assumption)
       first
         | (refine hQ _ ?_
            rw [e, if_pos (by assumption)])
         | (rw [e1] at hz
            have hp0 : p (.mk op' m' ⟨vk', vn', vs'⟩ ar') = false := by assumption
            rw [hp0, if_neg (by decide)] at e
            exact hR (i + 1) _ ⟨u.1, u.2, e.symm⟩ mu ⟨hz ▸ rfl, trivial⟩ ⟨rfl, rfl, rfl, trivial⟩ rfl))
    | (refine hQ _ ?_
       rw [hfin (by assumption)])
theorem containsFunc_c (k : Nat) (caps : List PV) (p : Ex → Bool) (ar : List Ex) (es : List (List PV)) (hes : ar.map Ex.cells = es) (hs : wideN ar.length)
    (hp : ∀ e, e ∈ ar → PCall Try.prog k (.agg e.cells :: caps) fun r => r = [.bool (p e)]) : PCall Try.prog 122 [.sl es, .fn k caps] fun r => r = [.bool (ar.any p)] := by
  have h := indexFunc_c k caps p ar es hes hs hp
  have ha := idxI_any p ar 0 (by decide)
  refine PCall.x (nt := 9) (res := [.tmp 4]) mixed tt_ok [] Try.func122 rfl rfl rfl c122 (Nat.le_of_ble_eq_true rfl) ?_
  intro cp cc lp Q' hcp hcc hlp hQ
  repeat' (first
    | (with_reducible refine Nm.mk ?_; intro z hz)
    | (with_reducible refine IfB.mk ?_ ?_ <;> (intro h; cases h))
    | (with_reducible refine Two.l ?_; refine Asm.mk ?_ ?_; focus (decide +kernel))
    | (with_reducible refine Two.r ?_)
    | (with_reducible refine Asm.mk ?_ ?_; focus (first | kernel_rfl | decide))
    | (with_reducible refine isCP hcp ?_; first | (refine iP hcp (h) ?_; intro z hz))
    | (with_reducible refine isCC hcc ?_; first | (refine iA hcc (h) rfl ?_; intro z hz))
    | (with_reducible refine Asm.mk2 ?_ ?_)
    | ((fail_if_success (with_reducible first | refine hQ _ ?_ | refine Side.mk ?_ | refine isCP hcp ?_ | refine isCC hcc ?_ | refine isLP hlp ?_ | refine Ix.mk ?_ | refine SIx.mk ?_ | refine SEx.mk ?_ | refine EIx.mk ?_ | refine RIx.mk ?_ | show False | refine hR ?_ _ ?_ ?_ ?_ ?_ ?_ | refine hR2 ?_ _ ?_ ?_ ?_ ?_ ?_)); cbv))
  all_goals (refine hQ _ ?_; clear hQ hcp hcc hlp h hp; congr 2; subst_vars; rw [Bool.eq_iff_iff, ← ha]; simp)
end Go.Proofs.Ytnhmnfokbinplaa
