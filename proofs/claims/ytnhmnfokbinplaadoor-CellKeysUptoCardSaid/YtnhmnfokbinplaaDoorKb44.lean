/- cell: Order, Test, Cat, True, with what they call; tallyref's Order; the order asked the other way round; The order of two rows: both; The key of a row, tallyref's; A number put behind bytes of one's own; The key of a row, the program's; Keys stand byte by byte as the rows do, and are read back: on plain values. Own work; no condition. -/
import Derived.Test.YtnhmnfokbinplaaDoorCell1
import Derived.Test.YtnhmnfokbinplaaDoorKb43
import Derived.Test.YtnhmnfokbinplaaDoorAbsX
import Derived.Test.YtnhmnfokbinplaaDoorAbs25
import Derived.Test.YtnhmnfokbinplaaDoorAbsQ
import Derived.Test.YtnhmnfokbinplaaDoorAbs23
import Derived.Test.YtnhmnfokbinplaaDoorAbs26
namespace Go.Proofs.YtnhmnfokbinplaaDoor
open Go Go.RowKit
set_option maxRecDepth 100000
set_option linter.unusedSimpArgs false
set_option linter.unusedVariables false

def cmpS (a b : ByteArray) : Int := Lib.compareBytes a.data.toList b.data.toList
theorem cmpstr_c (a b : ByteArray) : PCall Tryd.prog 44 [.str a, .str b] fun r => r = [.int .i64 (cmpS a b)] :=
  PCall.ext (fn := Tryd.f44) (e := Extern.BytealgCompare.compare) (by kernel_rfl) Tryd.func44 (by kernel_rfl) rfl (by kernel_rfl) (by kernel_rfl) fun m w vals hv => by
    obtain ⟨u, v, rfl, h1, h2⟩ := args2 hv
    cases h1; cases h2
    exact ⟨_, Lib.run_compareString a b w, .p (.int _ _)⟩
theorem compareString_c (a b : ByteArray) : PCall Tryd.prog 37 [.str a, .str b] fun r => r = [.int .i64 (cmpS a b)] := by
  refine PCall.x (nt := 8) (res := [.tmp 4]) mixed tt_ok [] Tryd.func37 rfl rfl rfl c37 (Nat.le_of_ble_eq_true rfl) ?_
  intro cp cc lp Q' hcp hcc hlp hQ
  repeat' (first
    | (with_reducible refine Nm.mk ?_; intro z hz)
    | (with_reducible refine IfB.mk ?_ ?_ <;> (intro h; cases h))
    | (with_reducible refine Two.l ?_; refine Asm.mk ?_ ?_; focus (decide +kernel))
    | (with_reducible refine Two.r ?_)
    | (with_reducible refine TwoT.r ?_)
    | (with_reducible refine Asm.mk ?_ ?_; focus (first | kernel_rfl | decide))
    | (with_reducible refine isCP hcp ?_; first | (refine iP hcp (cmpstr_c a b) ?_; intro z hz))
    | (with_reducible refine isCC hcc ?_; first | (refine iA hcc (cmpstr_c a b) rfl ?_; intro z hz))
    | (with_reducible refine Asm.mk2 ?_ ?_)
    | ((fail_if_success (with_reducible first | refine hQ _ ?_ | refine Side.mk ?_ | refine isCP hcp ?_ | refine isCC hcc ?_ | refine isLP hlp ?_ | refine Ix.mk ?_ | refine SIx.mk ?_ | refine SEx.mk ?_ | refine EIx.mk ?_ | refine RIx.mk ?_ | show False | refine hR ?_ _ ?_ ?_ ?_ ?_ ?_ | refine hR2 ?_ _ ?_ ?_ ?_ ?_ ?_)); cbv))
  all_goals (refine hQ _ ?_; clear hQ hcp hcc hlp; subst_vars; simp_all [])
theorem strCompare_c (a b : ByteArray) : PCall Tryd.prog 26 [.str a, .str b] fun r => r = [.int .i64 (cmpS a b)] := by
  refine PCall.x (nt := 8) (res := [.tmp 4]) mixed tt_ok [] Tryd.func26 rfl rfl rfl c26 (Nat.le_of_ble_eq_true rfl) ?_
  intro cp cc lp Q' hcp hcc hlp hQ
  repeat' (first
    | (with_reducible refine Nm.mk ?_; intro z hz)
    | (with_reducible refine IfB.mk ?_ ?_ <;> (intro h; cases h))
    | (with_reducible refine Two.l ?_; refine Asm.mk ?_ ?_; focus (decide +kernel))
    | (with_reducible refine Two.r ?_)
    | (with_reducible refine TwoT.r ?_)
    | (with_reducible refine Asm.mk ?_ ?_; focus (first | kernel_rfl | decide))
    | (with_reducible refine isCP hcp ?_; first | (refine iP hcp (compareString_c a b) ?_; intro z hz))
    | (with_reducible refine isCC hcc ?_; first | (refine iA hcc (compareString_c a b) rfl ?_; intro z hz))
    | (with_reducible refine Asm.mk2 ?_ ?_)
    | ((fail_if_success (with_reducible first | refine hQ _ ?_ | refine Side.mk ?_ | refine isCP hcp ?_ | refine isCC hcc ?_ | refine isLP hlp ?_ | refine Ix.mk ?_ | refine SIx.mk ?_ | refine SEx.mk ?_ | refine EIx.mk ?_ | refine RIx.mk ?_ | show False | refine hR ?_ _ ?_ ?_ ?_ ?_ ?_ | refine hR2 ?_ _ ?_ ?_ ?_ ?_ ?_)); cbv))
  all_goals (refine hQ _ ?_; clear hQ hcp hcc hlp; subst_vars; simp_all [])
def cmpI (a b : Int) : Int := if a < b then -1 else if b < a then 1 else 0
theorem isNaN1 (a : Int) : PCall Tryd.prog 27 [.int .i64 a] fun r => r = [.bool false] := by
  refine PCall.x (nt := 6) (res := [.tmp 2]) mixed tt_ok [] Tryd.func27 rfl rfl rfl c27 (Nat.le_of_ble_eq_true rfl) ?_
  intro cp cc lp Q' hcp hcc hlp hQ
  repeat' (first
    | (with_reducible refine Nm.mk ?_; intro z hz)
    | (with_reducible refine IfB.mk ?_ ?_ <;> (intro h; cases h))
    | (with_reducible refine Two.l ?_; refine Asm.mk ?_ ?_; focus (decide +kernel))
    | (with_reducible refine Two.r ?_)
    | (with_reducible refine TwoT.r ?_)
    | (with_reducible refine Asm.mk ?_ ?_; focus (first | kernel_rfl | decide))
    | (with_reducible refine Asm.mk2 ?_ ?_)
    | ((fail_if_success (with_reducible first | refine hQ _ ?_ | refine Side.mk ?_ | refine isCP hcp ?_ | refine isCC hcc ?_ | refine isLP hlp ?_ | refine Ix.mk ?_ | refine SIx.mk ?_ | refine SEx.mk ?_ | refine EIx.mk ?_ | refine RIx.mk ?_ | show False | refine hR ?_ _ ?_ ?_ ?_ ?_ ?_ | refine hR2 ?_ _ ?_ ?_ ?_ ?_ ?_)); cbv))
  all_goals (refine hQ _ ?_; clear hQ hcp hcc hlp; subst_vars; simp_all [])
theorem isNaN2 (a : Int) : PCall Tryd.prog 36 [.int .i64 a] fun r => r = [.bool false] := by
  refine PCall.x (nt := 6) (res := [.tmp 2]) mixed tt_ok [] Tryd.func36 rfl rfl rfl c36 (Nat.le_of_ble_eq_true rfl) ?_
  intro cp cc lp Q' hcp hcc hlp hQ
  repeat' (first
    | (with_reducible refine Nm.mk ?_; intro z hz)
    | (with_reducible refine IfB.mk ?_ ?_ <;> (intro h; cases h))
    | (with_reducible refine Two.l ?_; refine Asm.mk ?_ ?_; focus (decide +kernel))
    | (with_reducible refine Two.r ?_)
    | (with_reducible refine TwoT.r ?_)
    | (with_reducible refine Asm.mk ?_ ?_; focus (first | kernel_rfl | decide))
    | (with_reducible refine Asm.mk2 ?_ ?_)
    | ((fail_if_success (with_reducible first | refine hQ _ ?_ | refine Side.mk ?_ | refine isCP hcp ?_ | refine isCC hcc ?_ | refine isLP hlp ?_ | refine Ix.mk ?_ | refine SIx.mk ?_ | refine SEx.mk ?_ | refine EIx.mk ?_ | refine RIx.mk ?_ | show False | refine hR ?_ _ ?_ ?_ ?_ ?_ ?_ | refine hR2 ?_ _ ?_ ?_ ?_ ?_ ?_)); cbv))
  all_goals (refine hQ _ ?_; clear hQ hcp hcc hlp; subst_vars; simp_all [])
theorem compare1_c (a b : Int) : PCall Tryd.prog 14 [.int .i64 a, .int .i64 b] fun r => r = [.int .i64 (cmpI a b)] := by
  refine PCall.x (nt := 20) (res := [.tmp 4]) mixed tt_ok [] Tryd.func14 rfl rfl rfl c14 (Nat.le_of_ble_eq_true rfl) ?_
  intro cp cc lp Q' hcp hcc hlp hQ
  repeat' (first
    | (with_reducible refine Nm.mk ?_; intro z hz)
    | (with_reducible refine IfB.mk ?_ ?_ <;> (intro h; cases h))
    | (with_reducible refine Two.l ?_; refine Asm.mk ?_ ?_; focus (decide +kernel))
    | (with_reducible refine Two.r ?_)
    | (with_reducible refine TwoT.r ?_)
    | (with_reducible refine Asm.mk ?_ ?_; focus (first | kernel_rfl | decide))
    | (with_reducible refine isCP hcp ?_; first | (refine bP hcp (isNaN1 a) ?_; intro z hz) | (refine bP hcp (isNaN1 b) ?_; intro z hz))
    | (with_reducible refine isCC hcc ?_; first | (refine bA hcc (isNaN1 a) rfl ?_; intro z hz) | (refine bA hcc (isNaN1 b) rfl ?_; intro z hz))
    | (with_reducible refine Asm.mk2 ?_ ?_)
    | ((fail_if_success (with_reducible first | refine hQ _ ?_ | refine Side.mk ?_ | refine isCP hcp ?_ | refine isCC hcc ?_ | refine isLP hlp ?_ | refine Ix.mk ?_ | refine SIx.mk ?_ | refine SEx.mk ?_ | refine EIx.mk ?_ | refine RIx.mk ?_ | show False | refine hR ?_ _ ?_ ?_ ?_ ?_ ?_ | refine hR2 ?_ _ ?_ ?_ ?_ ?_ ?_)); cbv))
  all_goals (refine hQ _ ?_; clear hQ hcp hcc hlp; subst_vars; simp_all [cmpI]; try omega)
theorem compare2_c (a b : Int) : PCall Tryd.prog 25 [.int .i64 a, .int .i64 b] fun r => r = [.int .i64 (cmpI a b)] := by
  refine PCall.x (nt := 20) (res := [.tmp 4]) mixed tt_ok [] Tryd.func25 rfl rfl rfl c25 (Nat.le_of_ble_eq_true rfl) ?_
  intro cp cc lp Q' hcp hcc hlp hQ
  repeat' (first
    | (with_reducible refine Nm.mk ?_; intro z hz)
    | (with_reducible refine IfB.mk ?_ ?_ <;> (intro h; cases h))
    | (with_reducible refine Two.l ?_; refine Asm.mk ?_ ?_; focus (decide +kernel))
    | (with_reducible refine Two.r ?_)
    | (with_reducible refine TwoT.r ?_)
    | (with_reducible refine Asm.mk ?_ ?_; focus (first | kernel_rfl | decide))
    | (with_reducible refine isCP hcp ?_; first | (refine bP hcp (isNaN2 a) ?_; intro z hz) | (refine bP hcp (isNaN2 b) ?_; intro z hz))
    | (with_reducible refine isCC hcc ?_; first | (refine bA hcc (isNaN2 a) rfl ?_; intro z hz) | (refine bA hcc (isNaN2 b) rfl ?_; intro z hz))
    | (with_reducible refine Asm.mk2 ?_ ?_)
    | ((fail_if_success (with_reducible first | refine hQ _ ?_ | refine Side.mk ?_ | refine isCP hcp ?_ | refine isCC hcc ?_ | refine isLP hlp ?_ | refine Ix.mk ?_ | refine SIx.mk ?_ | refine SEx.mk ?_ | refine EIx.mk ?_ | refine RIx.mk ?_ | show False | refine hR ?_ _ ?_ ?_ ?_ ?_ ?_ | refine hR2 ?_ _ ?_ ?_ ?_ ?_ ?_)); cbv))
  all_goals (refine hQ _ ?_; clear hQ hcp hcc hlp; subst_vars; simp_all [cmpI]; try omega)

def orI : List Int → Int
  | [] => 0
  | x :: r => if x = 0 then orI r else x
theorem or_c (l : List Int) (L : List (List PV)) (hL : l.map i64c = L) (hs : l.length ≤ 1000) : PCall Tryd.prog 24 [.sl L] fun r => r = [.int .i64 (orI l)] := by
  have hLl : L.length = l.length := by rw [← hL]; simp
  refine PCall.x (nt := 18) (res := [.tmp 2]) mixed tt_ok [] Tryd.func24 rfl rfl rfl c24 (Nat.le_of_ble_eq_true rfl) ?_
  intro cp cc lp Q' hcp hcc hlp hQ
  repeat' (first
    | (with_reducible refine Nm.mk ?_; intro z hz)
    | (with_reducible refine IfB.mk ?_ ?_ <;> (intro h; cases h))
    | (with_reducible refine Two.l ?_; refine Asm.mk ?_ ?_; focus (decide +kernel))
    | (with_reducible refine Two.r ?_)
    | (with_reducible refine TwoT.r ?_)
    | (with_reducible refine Asm.mk ?_ ?_; focus (first | kernel_rfl | decide))
    | (with_reducible refine Asm.mk2 ?_ ?_)
    | ((fail_if_success (with_reducible first | refine hQ _ ?_ | refine Side.mk ?_ | refine isCP hcp ?_ | refine isCC hcc ?_ | refine isLP hlp ?_ | refine Ix.mk ?_ | refine SIx.mk ?_ | refine SEx.mk ?_ | refine EIx.mk ?_ | refine RIx.mk ?_ | show False | refine hR ?_ _ ?_ ?_ ?_ ?_ ?_ | refine hR2 ?_ _ ?_ ?_ ?_ ?_ ?_)); cbv))
  simp only [nc] at hz
  simp only [nc'] at hz
  refine loopK (ι := Int) mixed tt_ok hcp hcc hlp [3, 6, 7] (fun i => [(8, .p (.int .i64 i))]) (fun i => (0 ≤ i ∧ i ≤ z) ∧ orI (l.drop i.toNat) = orI l) (fun i => (z - i).toNat) 0 (fun _ => rfl) ⟨by omega, rfl⟩ ⟨rfl, trivial⟩ ?_
  intro R i hi hR
  have hi0 : 0 ≤ i := hi.1.1
  have hi1 : i ≤ z := hi.1.2
  have hd := hi.2
  have hk : decide (i < z) = true → i < l.length := by simp only [decide_eq_true_eq]; omega
  have hge : decide (i < z) = false → l.drop i.toNat = [] := by intro h; simp only [decide_eq_false_iff_not] at h; exact List.drop_eq_nil_of_le (by omega)
  have hst : decide (i < z) = true → IntKind.i64.wrap (i + 1) = i + 1 ∧ (0 ≤ i + 1 ∧ i + 1 ≤ z) ∧ (z - (i + 1)).toNat < (z - i).toNat := by
    intro h
    simp only [decide_eq_true_eq] at h
    exact ⟨wrap_in (by omega), by omega, by omega⟩
  have hdr : ∀ x, l[i.toNat]? = some x → l.drop i.toNat = x :: l.drop (i + 1).toNat := by
    intro x hx
    have hlt := (List.getElem?_eq_some_iff.1 hx).1
    rw [List.drop_eq_getElem_cons hlt, show (i + 1).toNat = i.toNat + 1 by omega]
    congr 1
    exact (List.getElem?_eq_some_iff.1 hx).2
  repeat' (first
    | (with_reducible refine Nm.mk ?_; intro z hz)
    | (with_reducible refine IfB.mk ?_ ?_ <;> (intro h; cases h))
    | (with_reducible refine Two.l ?_; refine Asm.mk ?_ ?_; focus (decide +kernel))
    | (with_reducible refine Two.r ?_)
    | (with_reducible refine TwoT.r ?_)
    | (with_reducible refine Asm.mk ?_ ?_; focus kernel_rfl)
    | (with_reducible refine Ix.map hL i64c_len (by decide) hi0 (hk (by assumption)) ?_; intro x hx)
    | (with_reducible refine Asm.mk2 ?_ ?_)
    | ((fail_if_success (with_reducible first | refine hQ _ ?_ | refine Side.mk ?_ | refine isCP hcp ?_ | refine isCC hcc ?_ | refine isLP hlp ?_ | refine Ix.mk ?_ | refine SIx.mk ?_ | refine SEx.mk ?_ | refine EIx.mk ?_ | refine RIx.mk ?_ | show False | refine hR ?_ _ ?_ ?_ ?_ ?_ ?_ | refine hR2 ?_ _ ?_ ?_ ?_ ?_ ?_)); cbv))
  · refine hQ _ ?_
    rw [← hd, hdr x hx]
    have : ¬ x = 0 := by clear hQ hR hcp hcc hlp; simp_all
    simp [orI, this]
  · obtain ⟨e1, e2, e3⟩ := hst (by assumption)
    rw [e1] at hz
    refine hR (i + 1) _ ⟨e2, ?_⟩ e3 ⟨hz ▸ rfl, trivial⟩ ⟨rfl, rfl, rfl, trivial⟩ rfl
    rw [hdr x hx] at hd
    have : x = 0 := by clear hQ hR hcp hcc hlp; simp_all
    rw [← hd]; simp [orI, this]
  · refine hQ _ ?_
    rw [← hd, hge (by assumption)]; rfl

theorem or3_c (a b c : Int) : PCall Tryd.prog 24 [.sl [[.int .i64 a], [.int .i64 b], [.int .i64 c]]] fun r => r = [.int .i64 (orI [a, b, c])] := or_c [a, b, c] _ rfl (by simp)
def orderV (a b : Val) : Int := orI [cmpI (clean a).k (clean b).k, cmpI (clean a).n (clean b).n, cmpS (clean a).s (clean b).s]
theorem order_c (k n : Int) (s : ByteArray) (k' n' : Int) (s' : ByteArray) : PCall Tryd.prog 13 [.agg [.int .i64 k, .int .i64 n, .str s], .agg [.int .i64 k', .int .i64 n', .str s']] fun r => r = [.int .i64 (orderV ⟨k, n, s⟩ ⟨k', n', s'⟩)] := by
  refine PCall.x (nt := 26) (res := [.tmp 4]) mixed tt_ok [] Tryd.func13 rfl rfl rfl c13 (Nat.le_of_ble_eq_true rfl) ?_
  intro cp cc lp Q' hcp hcc hlp hQ
  repeat' (first
    | (with_reducible refine Nm.mk ?_; intro z hz)
    | (with_reducible refine IfB.mk ?_ ?_ <;> (intro h; cases h))
    | (with_reducible refine Two.l ?_; refine Asm.mk ?_ ?_; focus (decide +kernel))
    | (with_reducible refine Two.r ?_)
    | (with_reducible refine TwoT.r ?_)
    | (with_reducible refine Asm.mk ?_ ?_; focus (first | kernel_rfl | decide))
    | (with_reducible refine isCP hcp ?_; first | (refine vP hcp (clean_c k n s) ?_; intro v hv) | (refine vP hcp (clean_c k' n' s') ?_; intro v hv) | (refine iP hcp (compare1_c _ _) ?_; intro z hz) | (refine iP hcp (compare2_c _ _) ?_; intro z hz) | (refine iP hcp (strCompare_c _ _) ?_; intro z hz) | (refine iP hcp (or3_c _ _ _) ?_; intro z hz))
    | (with_reducible refine isCC hcc ?_; first | (refine vA hcc (clean_c k n s) rfl ?_; intro v hv) | (refine vA hcc (clean_c k' n' s') rfl ?_; intro v hv) | (refine iA hcc (compare1_c _ _) rfl ?_; intro z hz) | (refine iA hcc (compare2_c _ _) rfl ?_; intro z hz) | (refine iA hcc (strCompare_c _ _) rfl ?_; intro z hz) | (refine iA hcc (or3_c _ _ _) rfl ?_; intro z hz))
    | (with_reducible refine Asm.mk2 ?_ ?_)
    | ((fail_if_success (with_reducible first | refine hQ _ ?_ | refine Side.mk ?_ | refine isCP hcp ?_ | refine isCC hcc ?_ | refine isLP hlp ?_ | refine Ix.mk ?_ | refine SIx.mk ?_ | refine SEx.mk ?_ | refine EIx.mk ?_ | refine RIx.mk ?_ | show False | refine hR ?_ _ ?_ ?_ ?_ ?_ ?_ | refine hR2 ?_ _ ?_ ?_ ?_ ?_ ?_)); cbv))
  all_goals (refine hQ _ ?_; clear hQ hcp hcc hlp; subst_vars; simp [orderV])
end Go.Proofs.YtnhmnfokbinplaaDoor

namespace Go.Proofs.YtnhmnfokbinplaaDoor
open Go Go.RowKit
set_option maxRecDepth 100000
set_option linter.unusedSimpArgs false
set_option linter.unusedVariables false

def cmpB_o (less same : Bool) : Int := if same = true then 0 else if less = true then -1 else 1
theorem less_cmp_o : ∀ a b : List UInt8, (if (a == b) = true then (0 : Int) else if Op.bytesLess a b = true then -1 else 1) = Lib.compareBytes a b
  | [], [] => by simp [Lib.compareBytes]
  | [], _ :: _ => by simp [Lib.compareBytes, Op.bytesLess]
  | _ :: _, [] => by simp [Lib.compareBytes, Op.bytesLess]
  | x :: a, y :: b => by
    have ih := less_cmp_o a b
    rw [Lib.compareBytes, ← ih]
    by_cases h1 : x < y
    · have : x ≠ y := by rintro rfl; exact UInt8.lt_irrefl _ h1
      simp [Op.bytesLess, h1, this]
    · by_cases h2 : y < x
      · have : x ≠ y := by rintro rfl; exact UInt8.lt_irrefl _ h2
        simp [Op.bytesLess, h1, h2, this]
      · have : x = y := by
          rw [UInt8.lt_iff_toNat_lt] at h1 h2
          exact UInt8.toNat_inj.1 (by omega)
        subst this
        simp [Op.bytesLess, h1]
theorem cmp_str_o (a b : ByteArray) : cmpB_o (sless a b) (sbeq a b) = cmpS a b := by
  unfold cmpS
  rw [← less_cmp_o]
  unfold cmpB_o sless sbeq
  rw [ByteArray.toList_eq, ByteArray.toList_eq]
theorem compareBytes_flip : ∀ a b : List UInt8, Lib.compareBytes b a = - Lib.compareBytes a b
  | [], [] => by simp [Lib.compareBytes]
  | [], _ :: _ => by simp [Lib.compareBytes]
  | _ :: _, [] => by simp [Lib.compareBytes]
  | x :: a, y :: b => by
    have ih := compareBytes_flip a b
    rw [Lib.compareBytes, Lib.compareBytes, ih]
    have hx : x < y ↔ x.toNat < y.toNat := UInt8.lt_iff_toNat_lt
    have hy : y < x ↔ y.toNat < x.toNat := UInt8.lt_iff_toNat_lt
    by_cases h1 : x < y
    · have h2 : ¬ y < x := by rw [hy]; rw [hx] at h1; omega
      simp [h1, h2]
    · by_cases h2 : y < x <;> simp [h1, h2]
theorem cmpI_flip (a b : Int) : cmpI b a = - cmpI a b := by unfold cmpI; (repeat' split) <;> omega
theorem orderV_flip (a b : Val) : orderV b a = - orderV a b := by
  unfold orderV orI orI orI
  rw [cmpI_flip (clean a).k, cmpI_flip (clean a).n]
  have hs : cmpS (clean b).s (clean a).s = - cmpS (clean a).s (clean b).s := compareBytes_flip _ _
  rw [hs]
  generalize cmpI (clean a).k (clean b).k = p
  generalize cmpI (clean a).n (clean b).n = q
  generalize cmpS (clean a).s (clean b).s = r
  rw [show orI [] = 0 from rfl]
  (repeat' split) <;> omega
end Go.Proofs.YtnhmnfokbinplaaDoor

namespace Go.Proofs.YtnhmnfokbinplaaDoor
open Go Go.RowKit
set_option maxRecDepth 100000
set_option linter.unusedSimpArgs false
set_option linter.unusedVariables false

def rowsV : List Val → List Val → Int
  | a :: r, b :: q => if orderV a b = 0 then rowsV r q else orderV a b
  | l, m => cmpI l.length m.length
theorem rowsV_nil (m : List Val) : rowsV [] m = cmpI 0 m.length := by cases m <;> rfl
theorem rowsV_nil2 (l : List Val) : rowsV l [] = cmpI l.length 0 := by cases l <;> rfl
theorem rowsV_step {A B : List Val} {i : Nat} {a b : Val} (ha : A[i]? = some a) (hb : B[i]? = some b) : rowsV (A.drop i) (B.drop i) = if orderV a b = 0 then rowsV (A.drop (i + 1)) (B.drop (i + 1)) else orderV a b := by
  obtain ⟨h1, rfl⟩ := List.getElem?_eq_some_iff.1 ha
  obtain ⟨h2, rfl⟩ := List.getElem?_eq_some_iff.1 hb
  rw [List.drop_eq_getElem_cons h1, List.drop_eq_getElem_cons h2, rowsV]
theorem cmpI_sub {a b i : Int} : cmpI (a - i) (b - i) = cmpI a b := by
  unfold cmpI
  by_cases h : a < b
  · rw [if_pos (by omega), if_pos h]
  · rw [if_neg (by omega), if_neg h]
    by_cases h2 : b < a
    · rw [if_pos (by omega), if_pos h2]
    · rw [if_neg (by omega), if_neg h2]
theorem rowsV_end {A B : List Val} {i : Nat} (h1 : i ≤ A.length) (h2 : i ≤ B.length) (h : A.length ≤ i ∨ B.length ≤ i) : rowsV (A.drop i) (B.drop i) = cmpI A.length B.length := by
  rcases h with h | h
  · rw [List.drop_eq_nil_of_le h, rowsV_nil, List.length_drop, ← cmpI_sub (a := A.length) (i := i)]
    congr 1 <;> omega
  · rw [List.drop_eq_nil_of_le h, rowsV_nil2, List.length_drop, ← cmpI_sub (a := A.length) (i := i)]
    congr 1 <;> omega
theorem Ix.rv {l : List (List PV)} {v : List Val} {n : Int} {K : List PV → Prop} (hl : v.map Val.cells = l) (h0 : 0 ≤ n) (hn : n.toNat < v.length) (k : ∀ a b c, v[n.toNat]? = some ⟨a, b, c⟩ → K [.int .i64 a, .int .i64 b, .str c]) : Ix 3 l n K := by
  obtain ⟨⟨a, b, c⟩, hx⟩ : ∃ x, v[n.toNat]? = some x := ⟨v[n.toNat], List.getElem?_eq_getElem hn⟩
  exact ⟨⟨[.int .i64 a, .int .i64 b, .str c], h0, by rw [← hl, List.getElem?_map, hx]; rfl, rfl, by decide, k a b c hx⟩⟩
set_option maxHeartbeats 2000000 in
theorem crows_c (A B : List Val) (CA CB : List (List PV)) (hA : A.map Val.cells = CA) (hB : B.map Val.cells = CB) (ha : A.length ≤ 140737488355328) (hb : B.length ≤ 140737488355328) : PCall Tryd.prog 5 [.sl CA, .sl CB] fun r => r = [.int .i64 (rowsV A B)] := by
  have hAl : CA.length = A.length := by rw [← hA]; simp
  have hBl : CB.length = B.length := by rw [← hB]; simp
  obtain ⟨q, hq⟩ : ∃ q, rowsV A B = q := ⟨_, rfl⟩
  rw [hq]
  have hmin : ∀ z1 z2 z : Int, (CA.length : Int) = z1 → (CB.length : Int) = z2 → (if z2 < z1 then z2 else z1) = z → z.toNat = min A.length B.length ∧ 0 ≤ z := by
    intro z1 z2 z h1 h2 h3; split at h3 <;> omega
  refine PCall.x (nt := 33) (res := [.tmp 4]) mixed tt_ok [] Tryd.func5 rfl rfl rfl c5 (Nat.le_of_ble_eq_true rfl) ?_
  intro cp cc lp Q' hcp hcc hlp hQ
  repeat' (first
    | (with_reducible refine Nm.mk ?_; intro z hz)
    | (with_reducible refine IfB.mk ?_ ?_ <;> (intro h; cases h))
    | (with_reducible refine Two.l ?_; refine Asm.mk ?_ ?_; focus (decide +kernel))
    | (with_reducible refine Two.r ?_)
    | (with_reducible refine TwoT.r ?_)
    | (with_reducible refine Asm.mk ?_ ?_; focus (first | kernel_rfl | decide))
    | (with_reducible refine Asm.mk2 ?_ ?_)
    | ((fail_if_success (with_reducible first | refine hQ _ ?_ | refine Side.mk ?_ | refine isCP hcp ?_ | refine isCC hcc ?_ | refine isLP hlp ?_ | refine Ix.mk ?_ | refine SIx.mk ?_ | refine SEx.mk ?_ | refine EIx.mk ?_ | refine RIx.mk ?_ | show False | refine hR ?_ _ ?_ ?_ ?_ ?_ ?_ | refine hR2 ?_ _ ?_ ?_ ?_ ?_ ?_)); cbv))
  rename_i za hza zb hzb
  have hzl := hmin _ _ _ hza hzb hz
  clear hz hmin hza hzb
  generalize z = zl at *
  refine loopK (ι := Int) mixed tt_ok hcp hcc hlp [0, 1, 11] (fun i => [(12, .p (.int .i64 i))]) (fun i => Rng (min A.length B.length) zl i ∧ rowsV (A.drop i.toNat) (B.drop i.toNat) = q) (fun i => (zl - i).toNat) 0 (fun _ => rfl) ⟨Rng.start hzl (by omega), hq⟩ ⟨rfl, trivial⟩ ?_
  rintro R i ⟨rg, hi⟩ hR
  have hlt : decide (i < zl) = true → i.toNat < A.length ∧ i.toNat < B.length := fun h => by have := rg.ltN h; omega
  have hend : decide (i < zl) = false → cmpI CA.length CB.length = q := fun h => by
    obtain ⟨e1, e2, e3⟩ := rg.stop h
    have := rg.lo
    rw [hAl, hBl, ← rowsV_end (i := i.toNat) (by omega) (by omega) (by omega), hi]
  have hst : ∀ a b, A[i.toNat]? = some a → B[i.toNat]? = some b → (if orderV a b = 0 then rowsV (A.drop (i + 1).toNat) (B.drop (i + 1).toNat) else orderV a b) = q := by
    intro a b h1 h2
    rw [← hi, rowsV_step h1 h2, rg.toNat]
  repeat' (first
    | (with_reducible refine Nm.mk ?_; intro z hz)
    | (with_reducible refine IfB.mk ?_ ?_ <;> (intro h; cases h))
    | (with_reducible refine Two.l ?_; refine Asm.mk ?_ ?_; focus (decide +kernel))
    | (with_reducible refine Two.r ?_)
    | (with_reducible refine TwoT.r ?_)
    | (with_reducible refine Asm.mk ?_ ?_; focus kernel_rfl)
    | (with_reducible refine isCP hcp ?_; first | (refine iP hcp (order_c _ _ _ _ _ _) ?_; intro z hz) | (refine iP hcp (compare1_c _ _) ?_; intro z hz))
    | (with_reducible refine isCC hcc ?_; first | (refine iA hcc (order_c _ _ _ _ _ _) rfl ?_; intro z hz) | (refine iA hcc (compare1_c _ _) rfl ?_; intro z hz))
    | (with_reducible refine Ix.rv hA rg.lo (hlt (by assumption)).1 ?_; intro k1 n1 s1 hx1)
    | (with_reducible refine Ix.rv hB rg.lo (hlt (by assumption)).2 ?_; intro k2 n2 s2 hx2)
    | (with_reducible refine Asm.mk2 ?_ ?_)
    | ((fail_if_success (with_reducible first | refine hQ _ ?_ | refine Side.mk ?_ | refine isCP hcp ?_ | refine isCC hcc ?_ | refine isLP hlp ?_ | refine Ix.mk ?_ | refine SIx.mk ?_ | refine SEx.mk ?_ | refine EIx.mk ?_ | refine RIx.mk ?_ | show False | refine hR ?_ _ ?_ ?_ ?_ ?_ ?_ | refine hR2 ?_ _ ?_ ?_ ?_ ?_ ?_)); cbv))
  · refine hQ _ ?_
    have h0 := hst _ _ hx1 hx2
    rename_i h1
    rw [h1, if_neg (by simpa using hz)] at h0
    rw [h0]
  · have hl : decide (i < zl) = true := by assumption
    rw [rg.wrap hl] at hz
    have h0 := hst _ _ hx1 hx2
    rename_i z0 h1 h2
    rw [h1, if_pos (by simpa using h2)] at h0
    exact hR (i + 1) _ ⟨rg.next hl, h0⟩ (rg.less hl) ⟨hz ▸ rfl, trivial⟩ ⟨rfl, rfl, rfl, trivial⟩ rfl
  · refine hQ _ ?_
    have h0 := hend (by assumption)
    rename_i h1 _ h2
    rw [h1, h2, hz] at h0
    rw [h0]
end Go.Proofs.YtnhmnfokbinplaaDoor

namespace Go.Proofs.YtnhmnfokbinplaaDoor
open Go Go.RowKit
set_option maxRecDepth 100000
set_option linter.unusedSimpArgs false
set_option linter.unusedVariables false

def keyL (l : List Val) : List UInt8 := l.flatMap fun v => keyV (clean v)
theorem keyL_app (a b : List Val) : keyL (a ++ b) = keyL a ++ keyL b := by simp [keyL]
theorem keyL_one (v : Val) : keyL [v] = keyV (clean v) := by simp [keyL]
theorem keyL_take (l : List Val) (n : Nat) : (keyL (l.take n)).length ≤ (keyL l).length := by
  have h := keyL_app (l.take n) (l.drop n)
  rw [List.take_append_drop] at h
  rw [h, List.length_append]; omega
end Go.Proofs.YtnhmnfokbinplaaDoor

namespace Go.Proofs.YtnhmnfokbinplaaDoor
open Go Go.RowKit
set_option maxRecDepth 100000
set_option linter.unusedSimpArgs false
set_option linter.unusedVariables false

/-- A call by a contract that speaks of some of the caller's objects. -/
theorem frameT {P : Program} {cc : FuncId → List AV → List AObj → (AV → List AObj → Prop) → Prop} (hcc : ACall P = cc) {f : FuncId} {args0 args : List AV} {H0 H1 H : List AObj} {X : AV} {K : AV → List AObj → Prop} (s : List Nat)
    (h : ACall P f args0 H0 fun r H' => r = X ∧ takeX H' (lenX H1) = H1) (hs : onceX s = true) (hl : lenX H1 = lenX s) (hr : args = AV.renL s args0) (hH : optL (nth H) s = some (mapX (AObj.ren s) H0)) (hlt : (AV.ltL (lenX s) args0 && ltH (lenX s) H0 && (AV.ltB (lenX s) X && ltH (lenX s) H1)) = true)
    (k : K (AV.ren s X) (backX s s H1 H)) : cc f args H K := by
  subst hcc
  rw [lenX_eq s] at hl hlt
  rw [Bool.and_eq_true, Bool.and_eq_true (AV.ltB _ _)] at hlt
  refine h.frame s hs hr hH hlt.1 ?_
  rintro r H' ⟨rfl, hH'⟩
  rw [hl] at hH'
  rw [hH']
  exact ⟨hlt.2.1, by rw [← lenX_eq]; exact hl, hlt.2.2, k⟩

theorem put_c (n : Int) (hn : 0 ≤ n) (L0 : List (List PV)) (m0 : Nat) (hm0 : L0.length = m0) (hok0 : okEs 1 L0 = true) (hs : m0 ≤ 1000000000) (L2 : List (List PV)) (m2 : Nat) (hL2 : L0 ++ upB n (-1) = L2) (hm2 : L2.length = m2) :
    ACall Tryd.prog 17 [.tok 0 L0, .p (.int .u64 n), .p (.int .i64 8)] [.spare m0 1] fun r H' => r = .tok 0 L2 ∧ takeX H' 1 = [.spare m2 1] := by
  refine ACall.x (nt := 23) (res := [.tmp 6]) mixed tt_ok [] Tryd.func17 rfl rfl rfl c17 (Nat.le_of_ble_eq_true rfl) ?_
  intro cp cc lp Q' hcp hcc hlp hQ
  repeat' (first
    | (with_reducible refine Nm.mk ?_; intro z hz)
    | (with_reducible refine IfB.mk ?_ ?_ <;> (intro h; cases h))
    | (with_reducible refine Two.l ?_; refine Asm.mk ?_ ?_; focus (decide +kernel))
    | (with_reducible refine Two.r ?_)
    | (with_reducible refine TwoT.r ?_)
    | (with_reducible refine Asm.mk ?_ ?_; focus (show (_ : Bool) = true; kernel_rfl))
    | (with_reducible refine Asm.mk2 ?_ ?_)
    | ((fail_if_success (with_reducible first | refine hQ _ _ ?_ | refine Side.mk ?_ | refine isCP hcp ?_ | refine isCC hcc ?_ | refine isLP hlp ?_ | refine Ix.mk ?_ | refine SIx.mk ?_ | refine SEx.mk ?_ | refine EIx.mk ?_ | refine RIx.mk ?_ | show False | refine hR ?_ _ ?_ ?_ ?_ ?_ ?_ | refine hR2 ?_ _ ?_ ?_ ?_ ?_ ?_)); cbv))
  have hz7 : z = 7 := by rw [← hz]; decide
  clear hz
  subst hz7
  refine loopT (ι := Int × List (List PV) × Nat) mixed tt_ok hcp hcc hlp [1] (fun p => [(0, .tok 0 p.2.1), (7, .p (.int .i64 p.1))]) (fun p => [.spare p.2.2 1]) (fun p => -1 ≤ p.1 ∧ p.1 ≤ 7 ∧ p.2.1.length = p.2.2 ∧ L0 ++ upB n p.1 = p.2.1) (fun p => (p.1 + 1).toNat) (7, L0, m0) 1 (fun _ => rfl) ⟨by show (-1 : Int) ≤ 7; decide, by show (7 : Int) ≤ 7; decide, hm0, by simp [upB]⟩ ⟨rfl, rfl, trivial⟩ rfl ?_
  rintro R ⟨i, L, m⟩ ⟨hi0, hi1, hm, hL⟩ hR
  replace hi0 : -1 ≤ i := hi0
  replace hi1 : i ≤ 7 := hi1
  replace hm : L.length = m := hm
  replace hL : L0 ++ upB n i = L := hL
  have hok : okEs 1 L = true := by
    rw [← hL]
    refine List.all_eq_true.2 fun e he => ?_
    rcases List.mem_append.1 he with h | h
    · exact List.all_eq_true.1 hok0 e h
    · obtain ⟨c, _, rfl⟩ := List.mem_map.1 h; rfl
  have hll : L.length ≤ 1000000008 := by rw [← hL, List.length_append, upB_len]; omega
  have hng : ∀ w : Int, IntKind.i64.wrap (8 * i) = w → decide (0 ≤ i) = true → ¬ w < 0 := by
    intro w h h0
    simp only [decide_eq_true_eq] at h0
    rw [wrap_in (by omega)] at h
    omega
  repeat' (first
    | (with_reducible refine Nm.mk ?_; intro z hz)
    | (with_reducible refine IfB.mk ?_ ?_ <;> (intro h; cases h))
    | (with_reducible refine Two.l ?_; refine Asm.mk ?_ ?_; focus (decide +kernel))
    | (with_reducible refine Two.r ?_)
    | (with_reducible refine TwoT.r ?_)
    | (with_reducible refine Asm.mk ?_ ?_; focus (first | exact hng _ (by assumption) (by assumption) | (refine ⟨hm.symm, rfl, hok, rfl, ?_, ?_⟩ <;> (clear hR hQ hng; simp only [List.length_cons, List.length_nil, maxLen]; omega)) | (show (_ : Bool) = true; kernel_rfl)))
    | (with_reducible refine Asm.mk2 ?_ ?_)
    | ((fail_if_success (with_reducible first | refine hQ _ _ ?_ | refine Side.mk ?_ | refine isCP hcp ?_ | refine isCC hcc ?_ | refine isLP hlp ?_ | refine Ix.mk ?_ | refine SIx.mk ?_ | refine SEx.mk ?_ | refine EIx.mk ?_ | refine RIx.mk ?_ | show False | refine hR ?_ _ ?_ ?_ ?_ ?_ ?_ | refine hR2 ?_ _ ?_ ?_ ?_ ?_ ?_)); cbv))
  · rename_i z3 h3 z2 h2 z1 h1 L3 hL3 m3 hm3
    have h0 : decide (0 ≤ i) = true := by assumption
    simp only [decide_eq_true_eq] at h0
    have hb := byte_eq hn h0 hi1 h3 h2 h1
    rw [wrap_in (by omega)] at hz
    subst hz
    refine hR (i - 1, L3, m3) _ ⟨by show -1 ≤ i - 1; omega, by show i - 1 ≤ 7; omega, by show L3.length = m3; rw [← hL3, ← hm3, List.length_append], ?_⟩ (by show (i - 1 + 1).toNat < (i + 1).toNat; omega) ⟨rfl, rfl, trivial⟩ ⟨rfl, trivial⟩ rfl
    show L0 ++ upB n (i - 1) = L3
    rw [upB_succ h0 hi1, ← List.append_assoc, hL, ← hL3, hb]
  · have h0 : decide (0 ≤ i) = false := by assumption
    simp only [decide_eq_false_iff_not] at h0
    have hi : i = -1 := by omega
    subst hi
    have e : L = L2 := by rw [← hL, ← hL2]
    subst e
    refine hQ _ _ ⟨rfl, ?_⟩
    rw [← hm2, hm]; rfl
end Go.Proofs.YtnhmnfokbinplaaDoor

namespace Go.Proofs.YtnhmnfokbinplaaDoor
open Go Go.RowKit
set_option maxRecDepth 100000
set_option linter.unusedSimpArgs false
set_option linter.unusedVariables false

theorem okEs_bytes (l : List UInt8) : okEs 1 (l.map byteC) = true := List.all_eq_true.2 fun e he => by obtain ⟨c, _, rfl⟩ := List.mem_map.1 he; rfl
theorem isU8s_bytes (l : List UInt8) : isU8s (l.map byteC) = true := by
  simp [isU8s, byteC, byteOf]
theorem strOf_bytes (l : List UInt8) : strOf (l.map byteC) = toB l := by
  simp [strOf, toB, byteC, byteOf, Function.comp_def]
theorem upB_bytes (n : Int) : upB n (-1) = (bytesN n).map byteC := by
  rw [upB, bytesN, List.map_map]; rfl

theorem keyV_num (n : Int) : keyV (num n) = 2 :: bytesN (flipN n) := by
  show (if (1 : Int) = 0 then [1] else if (1 : Int) = 1 then 2 :: bytesN (flipN n) else _) = _
  rw [if_neg (by decide), if_pos rfl]
theorem keyV_str (t : ByteArray) : keyV (str t) = 3 :: (escL (byts t) ++ [0, 1]) := by
  show (if (2 : Int) = 0 then [1] else if (2 : Int) = 1 then _ else if (2 : Int) = 2 then 3 :: (escL (byts t) ++ [0, 1]) else _) = _
  rw [if_neg (by decide), if_neg (by decide), if_pos rfl]
/-- Bytes of one's own. -/
structure BLst (N : Nat) (L : List (List PV)) (m : Nat) : Prop where
  ok : okEs 1 L = true
  len : L.length = m
  le : m ≤ N
theorem okEs_app {k : Nat} {a b : List (List PV)} (ha : okEs k a = true) (hb : okEs k b = true) : okEs k (a ++ b) = true := by
  refine List.all_eq_true.2 fun e he => ?_
  rcases List.mem_append.1 he with h | h
  · exact List.all_eq_true.1 ha e h
  · exact List.all_eq_true.1 hb e h
theorem BLst.app {N k : Nat} {L xs L1 : List (List PV)} {m m1 : Nat} (h : BLst N L m) (e : L ++ xs = L1) (e2 : L.length + xs.length = m1) (ok : okEs 1 xs = true) (hk : xs.length ≤ k) : BLst (N + k) L1 m1 := by
  subst e e2
  have := h.len
  have := h.le
  exact ⟨okEs_app h.ok ok, List.length_append, by omega⟩
theorem BLst.side {N : Nat} {L xs : List (List PV)} {m : Nat} (h : BLst N L m) (hN : N ≤ 1000000000) (ok : okEs 1 xs = true) (hk : xs.length ≤ 1000000000) : m = L.length ∧ 1 = 1 ∧ okEs 1 L = true ∧ okEs 1 xs = true ∧ L.length + xs.length ≤ maxLen ∧ (L.length + xs.length) * 1 ≤ 140737488355328 := by
  have := h.len
  have := h.le
  refine ⟨h.len.symm, rfl, h.ok, ok, ?_, ?_⟩
  · show L.length + xs.length ≤ 9223372036854775807; omega
  · omega
theorem putA {cc : FuncId → List AV → List AObj → (AV → List AObj → Prop) → Prop} (hcc : ACall Tryd.prog = cc) {n : Int} {L : List (List PV)} {m : Nat} {H : List AObj} {K : AV → List AObj → Prop} {N : Nat} (hn : 0 ≤ n) (hB : BLst N L m) (hN : N ≤ 1000000000) (hH : nth H 0 = some (.spare m 1))
    (k : ∀ L2 m2, L ++ upB n (-1) = L2 → L2.length = m2 → K (.tok 0 L2) (backX [0] [0] [.spare m2 1] H)) : cc 17 [.tok 0 L, .p (.int .u64 n), .p (.int .i64 8)] H K := by
  refine frameT (H1 := [.spare (L ++ upB n (-1)).length 1]) hcc [0] (put_c n hn L m hB.len hB.ok (by have := hB.le; omega) _ _ rfl rfl) rfl rfl rfl ?_ rfl (k _ _ rfl rfl)
  simp only [optL, hH]; rfl

set_option maxHeartbeats 2000000 in
theorem ckey_c (A : List Val) (CA : List (List PV)) (hA : A.map Val.cells = CA) (ha : A.length ≤ 140737488355328) (hs : ∀ v, v ∈ A → v.s.size ≤ 1048577) (hK : (keyL A).length ≤ 100000000)
    (hrep : ∀ s : ByteArray, s.size ≤ 1048577 → PCall Tryd.prog 18 [.str s, .str ⟨#[0]⟩, .str ⟨#[0, 255]⟩] fun r => r = [.str (toB (escL (byts s)))]) : PCall Tryd.prog 7 [.sl CA] fun r => r = [.str (toB (keyL A))] := by
  have hAl : CA.length = A.length := by rw [← hA]; simp
  have hpos : ∀ {n m : Int}, IntKind.u64.wrap ((BitVec.ofInt IntKind.u64.bits n ^^^ BitVec.ofInt IntKind.u64.bits 9223372036854775808).toNat : Int) = m → 0 ≤ m := by
    intro n m h; rw [← h]; simp [IntKind.wrap, IntKind.bits, IntKind.signed]; omega
  refine PCall.x (nt := 43) (res := [.tmp 2]) mixed tt_ok [] Tryd.func7 rfl rfl rfl c7 (Nat.le_of_ble_eq_true rfl) ?_
  intro cp cc lp Q' hcp hcc hlp hQ
  repeat' (first
    | (with_reducible refine Nm.mk ?_; intro z hz)
    | (with_reducible refine IfB.mk ?_ ?_ <;> (intro h; cases h))
    | (with_reducible refine Two.l ?_; refine Asm.mk ?_ ?_; focus (decide +kernel))
    | (with_reducible refine Two.r ?_)
    | (with_reducible refine TwoT.r ?_)
    | (with_reducible refine Asm.mk ?_ ?_; focus (first | kernel_rfl | decide))
    | (with_reducible refine Asm.mk2 ?_ ?_)
    | ((fail_if_success (with_reducible first | refine hQ _ ?_ | refine Side.mk ?_ | refine isCP hcp ?_ | refine isCC hcc ?_ | refine isLP hlp ?_ | refine Ix.mk ?_ | refine SIx.mk ?_ | refine SEx.mk ?_ | refine EIx.mk ?_ | refine RIx.mk ?_ | show False | refine hR ?_ _ ?_ ?_ ?_ ?_ ?_ | refine hR2 ?_ _ ?_ ?_ ?_ ?_ ?_)); cbv))
  simp only [nc] at hz
  simp only [nc'] at hz
  have hzl := lenZ (n := A.length) hAl hz
  clear hz
  generalize z = zl at *
  refine mintT hlp 1 3 rfl ?_
  refine loopT (ι := Int × List (List PV) × Nat) mixed tt_ok hcp hcc hlp [6, 7] (fun p => [(3, .tok 0 p.2.1), (8, .p (.int .i64 p.1))]) (fun p => [.spare p.2.2 1]) (fun p => Rng A.length zl p.1 ∧ p.2.1 = (keyL (A.take p.1.toNat)).map byteC ∧ p.2.1.length = p.2.2) (fun p => (zl - p.1).toNat) (0, [], 0) 1 (fun _ => rfl) ⟨Rng.start hzl (by omega), rfl, rfl⟩ ⟨rfl, rfl, trivial⟩ rfl ?_
  rintro R ⟨i, L, m⟩ ⟨rg, hL, hm⟩ hR
  replace rg : Rng A.length zl i := rg
  replace hL : L = (keyL (A.take i.toNat)).map byteC := hL
  replace hm : L.length = m := hm
  have hB : BLst 100000000 L m := ⟨by rw [hL]; exact okEs_bytes _, hm, by rw [← hm, hL, List.length_map]; exact Nat.le_trans (keyL_take A _) hK⟩
  have hfin : ∀ {k n : Int} {s : ByteArray} {L2 : List (List PV)} {m2 : Nat} {z A'}, A[i.toNat]? = some ⟨k, n, s⟩ → decide (i < zl) = true → L2 = L ++ (keyV (clean ⟨k, n, s⟩)).map byteC → L2.length = m2 → IntKind.i64.wrap (i + 1) = z → subL A'.T [(3, .tok 0 L2), (8, .p (.int .i64 z))] → subP A'.T _ _ → takeX A'.H 1 = [.spare m2 1] → R A' := fun {k n s L2 m2 z A'} hx h h2 h3 h4 h5 h6 h7 => by
    rw [rg.wrap h] at h4
    subst h4
    refine hR (i + 1, L2, m2) A' ⟨rg.next h, ?_, h3⟩ (rg.less h) h5 h6 h7
    show L2 = (keyL (A.take (i + 1).toNat)).map byteC
    rw [rg.take hx, keyL_app, keyL_one, List.map_append, h2, hL]
  have hsv : ∀ {k n : Int} {s : ByteArray}, A[i.toNat]? = some ⟨k, n, s⟩ → s.size ≤ 1048577 := fun hx => hs _ (List.mem_of_getElem? hx)
  have hrl : ∀ {s r : ByteArray} {xs : List (List PV)}, s.size ≤ 1048577 → toB (escL (byts s)) = r → List.map (fun c : UInt8 => [PV.int .u8 (c.toNat : Int)]) r.data.toList = xs → okEs 1 xs = true ∧ xs.length ≤ 2097154 := by
    rintro s r xs h rfl rfl
    refine ⟨okEs_bytes _, ?_⟩
    rw [List.length_map]
    have := escL_len (byts s)
    rw [byts_len] at this
    show (escL (byts s)).length ≤ _
    omega
  have hu : isU8s L = true := by rw [hL]; exact isU8s_bytes _
  repeat' (first
    | (with_reducible refine TwoT.l ?_; refine Asm.mk ?_ ?_; focus (decide +kernel))
    | (with_reducible refine Nm.mk ?_; intro z hz)
    | (with_reducible refine IfB.mk ?_ ?_ <;> (intro h; cases h))
    | (with_reducible refine Two.l ?_; refine Asm.mk ?_ ?_; focus (decide +kernel))
    | (with_reducible refine Two.r ?_)
    | (with_reducible refine TwoT.r ?_)
    | (with_reducible refine Asm.mk ?_ ?_; focus (first | exact hB.side (by decide) rfl (by decide) | exact (hB.app (k := 1) (by assumption) (by assumption) rfl (by decide)).side (by decide) (hrl (hsv hx0) (by assumption) (by assumption)).1 (Nat.le_trans (hrl (hsv hx0) (by assumption) (by assumption)).2 (by decide)) | exact ((hB.app (k := 1) (by assumption) (by assumption) rfl (by decide)).app (k := 2097154) (by assumption) (by assumption) (hrl (hsv hx0) (by assumption) (by assumption)).1 (hrl (hsv hx0) (by assumption) (by assumption)).2).side (by decide) rfl (by decide) | exact hu | (show (_ : Bool) = true; kernel_rfl)))
    | (with_reducible refine isCP hcp ?_; first | (refine sP hcp (hrep _ (hsv hx0)) ?_; intro z hz))
    | (with_reducible refine isCC hcc ?_; first | (refine sA hcc (hrep _ (hsv hx0)) rfl ?_; intro z hz))
    | (with_reducible refine Ix.rv hA rg.lo (rg.ltN (by assumption)) ?_; intro k n s hx0)
    | (with_reducible refine isCC hcc ?_; refine putA hcc (hpos (by assumption)) (hB.app (k := 1) (by assumption) (by assumption) rfl (by decide)) (by decide) rfl ?_; intro Lp mp hLp hmp)
    | (with_reducible refine Asm.mk2 ?_ ?_)
    | ((fail_if_success (with_reducible first | refine hQ _ ?_ | refine Side.mk ?_ | refine isCP hcp ?_ | refine isCC hcc ?_ | refine isLP hlp ?_ | refine Ix.mk ?_ | refine SIx.mk ?_ | refine SEx.mk ?_ | refine EIx.mk ?_ | refine RIx.mk ?_ | show False | refine hR ?_ _ ?_ ?_ ?_ ?_ ?_ | refine hR2 ?_ _ ?_ ?_ ?_ ?_ ?_)); cbv))
  · rename_i hk1 L1 h1 m1 hm1 zu hzu zx hzx
    have h1' : k = 1 := of_decide_eq_true hk1
    refine hfin hx0 (by assumption) ?_ hmp hz ⟨rfl, rfl, trivial⟩ ⟨rfl, rfl, trivial⟩ rfl
    have e : clean ⟨k, n, s⟩ = num n := by rw [clean, if_pos h1']; rfl
    rw [← hLp, ← h1, e, keyV_num, upB_bytes, List.append_assoc, ← hzx, ← hzu]
    rfl
  · rename_i hk1 hk2 L1 h1 m1 hm1 r hr xs hxs L3 h3 m3 hm3 L4 h4 m4 hm4
    have h1' : ¬ k = 1 := of_decide_eq_false hk1
    have h2' : k = 2 := of_decide_eq_true hk2
    refine hfin hx0 (by assumption) ?_ (by rw [← h4, ← hm4, List.length_append]) hz ⟨rfl, rfl, trivial⟩ ⟨rfl, rfl, trivial⟩ rfl
    have e : clean ⟨k, n, s⟩ = str s := by rw [clean, if_neg h1', if_pos h2']; rfl
    rw [← h4, ← h3, ← h1, e, keyV_str, ← hxs, ← hr, List.append_assoc, List.append_assoc, List.map_cons, List.map_append]
    rfl
  · rename_i hk1 hk2 L1 h1 m1 hm1
    have h1' : ¬ k = 1 := of_decide_eq_false hk1
    have h2' : ¬ k = 2 := of_decide_eq_false hk2
    refine hfin hx0 (by assumption) ?_ (by rw [← h1, ← hm1, List.length_append]) hz ⟨rfl, rfl, trivial⟩ ⟨rfl, rfl, trivial⟩ rfl
    have e : clean ⟨k, n, s⟩ = Val.zero := by rw [clean, if_neg h1', if_neg h2']
    rw [← h1, e]
    rfl
  · refine hQ _ ?_
    rw [rg.take_ rfl (by assumption)] at hL
    rw [← hz, hL, strOf_bytes]
end Go.Proofs.YtnhmnfokbinplaaDoor

namespace Go.Proofs.YtnhmnfokbinplaaDoor
open Go Go.RowKit
set_option maxRecDepth 100000
set_option linter.unusedSimpArgs false
set_option linter.unusedVariables false

/-! ### eight bytes, the high one first -/
def vb : List UInt8 → Nat
  | [] => 0
  | b :: l => b.toNat * 256 ^ l.length + vb l
theorem vb_lt : ∀ l : List UInt8, vb l < 256 ^ l.length
  | [] => by simp [vb]
  | b :: l => by
    have h := vb_lt l
    have hb := b.toNat_lt
    rw [vb, List.length_cons, Nat.pow_succ]
    have : b.toNat * 256 ^ l.length ≤ 255 * 256 ^ l.length := Nat.mul_le_mul_right _ (by omega)
    omega
theorem cmp_big : ∀ (l m x y : List UInt8), l.length = m.length → Lib.compareBytes (l ++ x) (m ++ y) = if vb l = vb m then Lib.compareBytes x y else cmpI (vb l) (vb m)
  | [], [], x, y, _ => by simp [vb]
  | b :: l, c :: m, x, y, h => by
    have h' : l.length = m.length := by simpa using h
    have ih := cmp_big l m x y h'
    have l1 := vb_lt l
    have l2 := vb_lt m
    rw [List.cons_append, List.cons_append, Lib.compareBytes, ih, vb, vb, h']
    rw [h'] at l1
    have hx : b < c ↔ b.toNat < c.toNat := UInt8.lt_iff_toNat_lt
    have hy : c < b ↔ c.toNat < b.toNat := UInt8.lt_iff_toNat_lt
    by_cases h1 : b < c
    · have h3 := hx.1 h1
      have h2 : (b.toNat + 1) * 256 ^ m.length ≤ c.toNat * 256 ^ m.length := Nat.mul_le_mul_right _ h3
      rw [Nat.succ_mul] at h2
      rw [if_pos h1, if_neg (by omega)]
      unfold cmpI
      rw [if_pos (by omega)]
    · by_cases h2 : c < b
      · have h3 := hy.1 h2
        have h4 : (c.toNat + 1) * 256 ^ m.length ≤ b.toNat * 256 ^ m.length := Nat.mul_le_mul_right _ h3
        rw [Nat.succ_mul] at h4
        rw [if_neg h1, if_pos h2, if_neg (by omega)]
        unfold cmpI
        rw [if_neg (by omega), if_pos (by omega)]
      · have e : b = c := by
          rw [hx] at h1; rw [hy] at h2
          exact UInt8.toNat_inj.1 (by omega)
        subst e
        rw [if_neg h1, if_neg h2]
        by_cases hv : vb l = vb m
        · rw [if_pos hv, if_pos (by omega)]
        · rw [if_neg hv, if_neg (by omega)]
          unfold cmpI
          (repeat' split) <;> omega
theorem vb_bytesN {n : Int} (h0 : 0 ≤ n) (h1 : n < 18446744073709551616) : (vb (bytesN n) : Int) = n := by
  have e : bytesN n = [byteAt n 7, byteAt n 6, byteAt n 5, byteAt n 4, byteAt n 3, byteAt n 2, byteAt n 1, byteAt n 0] := by
    simp [bytesN, List.range, List.range.loop]
  rw [e]
  simp only [vb, byteAt_toNat, List.length_cons, List.length_nil, Nat.reduceAdd, Nat.reducePow, Nat.reduceMul]
  omega
theorem bytesN_len (n : Int) : (bytesN n).length = 8 := by simp [bytesN]
theorem numL_vb {l : List UInt8} (h : l.length = 8) : numL l = (vb l : Int) := by
  match l, h with
  | [b0, b1, b2, b3, b4, b5, b6, b7], _ =>
    have h0 := b0.toNat_lt
    have h1 := b1.toNat_lt
    have h2 := b2.toNat_lt
    have h3 := b3.toNat_lt
    have h4 := b4.toNat_lt
    have h5 := b5.toNat_lt
    have h6 := b6.toNat_lt
    have h7 := b7.toNat_lt
    simp only [numL, List.foldl_cons, List.foldl_nil]
    rw [stepN_eq (by omega) (by omega) b0, stepN_eq (by omega) (by omega) b1, stepN_eq (by omega) (by omega) b2, stepN_eq (by omega) (by omega) b3, stepN_eq (by omega) (by omega) b4, stepN_eq (by omega) (by omega) b5, stepN_eq (by omega) (by omega) b6, stepN_eq (by omega) (by omega) b7]
    simp only [vb, List.length_cons, List.length_nil, Nat.reduceAdd, Nat.reducePow]
    omega
theorem wrapU (n : Int) : IntKind.u64.wrap n = n % 18446744073709551616 := by simp [IntKind.wrap, IntKind.bits, IntKind.signed]
theorem xor_top {m : Nat} (h : m < 18446744073709551616) : m ^^^ 9223372036854775808 = if m < 9223372036854775808 then m + 9223372036854775808 else m - 9223372036854775808 := by
  have e1 : (m ^^^ 9223372036854775808) % 2 ^ 63 = m % 2 ^ 63 := by
    rw [Nat.xor_mod_two_pow]; simp
  have e2 : (m ^^^ 9223372036854775808) / 2 ^ 63 = (m / 2 ^ 63) ^^^ 1 := by
    rw [Nat.xor_div_two_pow]
  have e3 := Nat.div_add_mod (m ^^^ 9223372036854775808) (2 ^ 63)
  rw [e1, e2] at e3
  split
  · rename_i g
    rw [show m / 2 ^ 63 = 0 by omega] at e3
    simp at e3; omega
  · rw [show m / 2 ^ 63 = 1 by omega] at e3
    simp at e3; omega
/-- A number of 64 bits. -/
def i64ok (n : Int) : Prop := -9223372036854775808 ≤ n ∧ n ≤ 9223372036854775807
theorem flipN_eq {n : Int} (h : i64ok n) : flipN n = n + 9223372036854775808 := by
  unfold i64ok at h
  obtain ⟨m, hm⟩ : ∃ m : Nat, (m : Int) = n % 18446744073709551616 := ⟨(n % 18446744073709551616).toNat, by omega⟩
  rw [flipN, wrapU n, ← hm, wrapU]
  have e : (BitVec.ofInt IntKind.u64.bits (m : Int) ^^^ BitVec.ofInt IntKind.u64.bits 9223372036854775808).toNat = m ^^^ 9223372036854775808 := by
    show (BitVec.ofInt 64 (m : Int) ^^^ BitVec.ofInt 64 ((9223372036854775808 : Nat) : Int)).toNat = _
    rw [BitVec.toNat_xor, BitVec.ofInt_natCast, BitVec.ofInt_natCast, BitVec.toNat_ofNat, BitVec.toNat_ofNat, Nat.mod_eq_of_lt (by omega), Nat.mod_eq_of_lt (by omega)]
  rw [e, xor_top (by omega)]
  split <;> omega
theorem backN_flip {n : Int} (h : i64ok n) : backN (flipN n) = n := by
  have hf := flipN_eq h
  unfold i64ok at h
  have w := IntKind.wrap_i64
  obtain ⟨m, hm⟩ : ∃ m : Nat, (m : Int) = n + 9223372036854775808 := ⟨(n + 9223372036854775808).toNat, by omega⟩
  rw [backN, hf, ← hm, wrapU]
  have e : (BitVec.ofInt IntKind.u64.bits (m : Int) ^^^ BitVec.ofInt IntKind.u64.bits 9223372036854775808).toNat = m ^^^ 9223372036854775808 := by
    show (BitVec.ofInt 64 (m : Int) ^^^ BitVec.ofInt 64 ((9223372036854775808 : Nat) : Int)).toNat = _
    rw [BitVec.toNat_xor, BitVec.ofInt_natCast, BitVec.ofInt_natCast, BitVec.toNat_ofNat, BitVec.toNat_ofNat, Nat.mod_eq_of_lt (by omega), Nat.mod_eq_of_lt (by omega)]
  rw [e, xor_top (by omega), w]
  split <;> omega
theorem cmp_num {n n' : Int} (h : i64ok n) (h' : i64ok n') (x y : List UInt8) : Lib.compareBytes (bytesN (flipN n) ++ x) (bytesN (flipN n') ++ y) = if cmpI n n' = 0 then Lib.compareBytes x y else cmpI n n' := by
  rw [cmp_big _ _ _ _ (by rw [bytesN_len, bytesN_len])]
  have e1 := flipN_eq h
  have e2 := flipN_eq h'
  unfold i64ok at h h'
  have v1 := vb_bytesN (n := flipN n) (by omega) (by omega)
  have v2 := vb_bytesN (n := flipN n') (by omega) (by omega)
  unfold cmpI
  by_cases g : n = n'
  · subst g
    rw [if_pos rfl]; simp
  · rw [if_neg (by omega)]
    by_cases g2 : n < n'
    · rw [if_pos (by omega), if_pos g2]; rfl
    · have g3 : n' < n := by omega
      rw [if_neg (by omega), if_pos (by omega)]; simp [g2, g3]

/-! ### texts -/
theorem cmp_esc : ∀ (a b x y : List UInt8), Lib.compareBytes (escL a ++ 0 :: 1 :: x) (escL b ++ 0 :: 1 :: y) = if Lib.compareBytes a b = 0 then Lib.compareBytes x y else Lib.compareBytes a b
  | [], [], x, y => by simp [escL, Lib.compareBytes]
  | [], c :: b, x, y => by
    by_cases hc : c = 0
    · subst hc; simp [escL, Lib.compareBytes]
    · have hl : (0 : UInt8) < c := by
        rw [UInt8.lt_iff_toNat_lt]
        have : c.toNat ≠ 0 := fun e => hc (UInt8.toNat_inj.1 e)
        show 0 < c.toNat
        omega
      simp [escL, hc, Lib.compareBytes, hl]
  | c :: a, [], x, y => by
    by_cases hc : c = 0
    · subst hc; simp [escL, Lib.compareBytes]
    · have hl : (0 : UInt8) < c := by
        rw [UInt8.lt_iff_toNat_lt]
        have : c.toNat ≠ 0 := fun e => hc (UInt8.toNat_inj.1 e)
        show 0 < c.toNat
        omega
      have hn : ¬ c < 0 := by rw [UInt8.lt_iff_toNat_lt]; show ¬ c.toNat < 0; omega
      simp [escL, hc, Lib.compareBytes, hl, hn]
  | c :: a, d :: b, x, y => by
    have ih := cmp_esc a b x y
    have hz : ∀ e : UInt8, ¬ e = 0 → (0 : UInt8) < e ∧ ¬ e < 0 := by
      intro e he
      rw [UInt8.lt_iff_toNat_lt, UInt8.lt_iff_toNat_lt]
      have : e.toNat ≠ 0 := fun q => he (UInt8.toNat_inj.1 q)
      show 0 < e.toNat ∧ ¬ e.toNat < 0
      omega
    have e0 : escL (c :: a) = (if c = 0 then [0, 255] else [c]) ++ escL a := by simp [escL]
    have e1 : escL (d :: b) = (if d = 0 then [0, 255] else [d]) ++ escL b := by simp [escL]
    rw [e0, e1]
    by_cases hc : c = 0
    · subst hc
      by_cases hd : d = 0
      · subst hd
        simp [Lib.compareBytes, ih]
      · obtain ⟨h1, h2⟩ := hz d hd
        simp [hd, Lib.compareBytes, h1]
    · obtain ⟨h1, h2⟩ := hz c hc
      by_cases hd : d = 0
      · subst hd
        simp [hc, Lib.compareBytes, h1, h2]
      · simp only [hc, hd, if_false, List.singleton_append, List.cons_append, List.nil_append, Lib.compareBytes, ih]
        (repeat' split) <;> simp_all
/-! ### values and rows -/
theorem clean_cases (v : Val) : clean v = num v.n ∨ clean v = str v.s ∨ clean v = Val.zero := by
  rw [clean]
  split
  · exact .inl rfl
  · split
    · exact .inr (.inl rfl)
    · exact .inr (.inr rfl)
theorem cmpI_self (n : Int) : cmpI n n = 0 := by unfold cmpI; rw [if_neg (Int.lt_irrefl _), if_neg (Int.lt_irrefl _)]
theorem cmpS_self (s : ByteArray) : cmpS s s = 0 := by
  have : ∀ l : List UInt8, Lib.compareBytes l l = 0 := by
    intro l
    induction l with
    | nil => rfl
    | cons b r ih => rw [Lib.compareBytes, if_neg (UInt8.lt_irrefl b), if_neg (UInt8.lt_irrefl b), ih]
  exact this _
theorem cmp_val {a b : Val} (ha : i64ok a.n) (hb : i64ok b.n) (x y : List UInt8) : Lib.compareBytes (keyV (clean a) ++ x) (keyV (clean b) ++ y) = if orderV a b = 0 then Lib.compareBytes x y else orderV a b := by
  have kz : keyV Val.zero = [1] := rfl
  have c12 : cmpI 0 1 = -1 := rfl
  have c21 : cmpI 1 0 = 1 := rfl
  have c13 : cmpI 0 2 = -1 := rfl
  have c31 : cmpI 2 0 = 1 := rfl
  have c23 : cmpI 1 2 = -1 := rfl
  have c32 : cmpI 2 1 = 1 := rfl
  have hS : ∀ s t : ByteArray, cmpS s t = Lib.compareBytes (byts s) (byts t) := fun _ _ => rfl
  unfold orderV
  rcases clean_cases a with e | e | e <;> rcases clean_cases b with g | g | g <;> rw [e, g]
  · rw [keyV_num, keyV_num, List.cons_append, List.cons_append, Lib.compareBytes, if_neg (UInt8.lt_irrefl _), if_neg (UInt8.lt_irrefl _), cmp_num ha hb]
    simp [orI, num, cmpI_self, cmpS_self]
    (repeat' split) <;> simp_all
  · rw [keyV_num, keyV_str]; simp [orI, num, str, c23, Lib.compareBytes]
  · rw [keyV_num, kz]; simp [orI, num, Val.zero, c21, Lib.compareBytes]
  · rw [keyV_num, keyV_str]; simp [orI, num, str, c32, Lib.compareBytes]
  · rw [keyV_str, keyV_str, List.cons_append, List.cons_append, Lib.compareBytes, if_neg (UInt8.lt_irrefl _), if_neg (UInt8.lt_irrefl _), List.append_assoc, List.append_assoc]
    rw [show [(0 : UInt8), 1] ++ x = 0 :: 1 :: x from rfl, show [(0 : UInt8), 1] ++ y = 0 :: 1 :: y from rfl, cmp_esc]
    simp [orI, str, cmpI_self, hS]
    (repeat' split) <;> simp_all
  · rw [keyV_str, kz]; simp [orI, str, Val.zero, c31, Lib.compareBytes]
  · rw [keyV_num, kz]; simp [orI, num, Val.zero, c12, Lib.compareBytes]
  · rw [keyV_str, kz]; simp [orI, str, Val.zero, c13, Lib.compareBytes]
  · rw [kz]; simp [orI, cmpI_self, cmpS_self, Lib.compareBytes]
theorem keyV_ne (v : Val) : keyV (clean v) ≠ [] := by
  rcases clean_cases v with e | e | e <;> rw [e]
  · rw [keyV_num]; simp
  · rw [keyV_str]; simp
  · show [(1 : UInt8)] ≠ []; simp
theorem keyL_cons (v : Val) (r : List Val) : keyL (v :: r) = keyV (clean v) ++ keyL r := by rw [show v :: r = [v] ++ r from rfl, keyL_app, keyL_one]
theorem cmp_rows : ∀ (A B : List Val), (∀ v, v ∈ A → i64ok v.n) → (∀ v, v ∈ B → i64ok v.n) → Lib.compareBytes (keyL A) (keyL B) = rowsV A B
  | [], [], _, _ => rfl
  | [], b :: B, _, _ => by
    rw [rowsV_nil, keyL_cons]
    cases h : keyV (clean b) with
    | nil => exact absurd h (keyV_ne b)
    | cons c r =>
      show (-1 : Int) = _
      unfold cmpI; rw [if_pos (by simp only [List.length_cons]; omega)]
  | a :: A, [], _, _ => by
    rw [rowsV_nil2, keyL_cons]
    cases h : keyV (clean a) with
    | nil => exact absurd h (keyV_ne a)
    | cons c r =>
      show (1 : Int) = _
      unfold cmpI; rw [if_neg (by simp only [List.length_cons, List.length_nil]; omega), if_pos (by simp only [List.length_cons, List.length_nil]; omega)]
  | a :: A, b :: B, ha, hb => by
    rw [keyL_cons, keyL_cons, cmp_val (ha a (by simp)) (hb b (by simp)), rowsV, cmp_rows A B (fun v h => ha v (by simp [h])) (fun v h => hb v (by simp [h]))]
theorem rowsV_flip : ∀ A B : List Val, rowsV B A = - rowsV A B
  | [], [] => rfl
  | [], b :: B => by rw [rowsV_nil, rowsV_nil2]; exact cmpI_flip _ _
  | a :: A, [] => by rw [rowsV_nil, rowsV_nil2]; exact cmpI_flip _ _
  | a :: A, b :: B => by
    rw [rowsV, rowsV, orderV_flip a b, rowsV_flip A B]
    (repeat' split) <;> omega
theorem rowsV_small (A B : List Val) : -1 ≤ rowsV A B ∧ rowsV A B ≤ 1 := by
  have hI : ∀ x y : Int, -1 ≤ cmpI x y ∧ cmpI x y ≤ 1 := by intro x y; unfold cmpI; (repeat' split) <;> omega
  have hB : ∀ x y : List UInt8, -1 ≤ Lib.compareBytes x y ∧ Lib.compareBytes x y ≤ 1 := by
    intro x
    induction x with
    | nil => intro y; cases y <;> simp [Lib.compareBytes]
    | cons b x ih =>
      intro y
      cases y with
      | nil => simp [Lib.compareBytes]
      | cons c y =>
        rw [Lib.compareBytes]
        have := ih y
        (repeat' split) <;> omega
  have hV : ∀ a b : Val, -1 ≤ orderV a b ∧ orderV a b ≤ 1 := by
    intro a b
    unfold orderV orI orI orI
    have h1 := hI (clean a).k (clean b).k
    have h2 := hI (clean a).n (clean b).n
    have h3 : -1 ≤ cmpS (clean a).s (clean b).s ∧ cmpS (clean a).s (clean b).s ≤ 1 := hB _ _
    rw [show orI [] = 0 from rfl]
    (repeat' split) <;> omega
  induction A generalizing B with
  | nil => rw [rowsV_nil]; exact hI _ _
  | cons a A ih =>
    cases B with
    | nil => rw [rowsV_nil2]; exact hI _ _
    | cons b B =>
      rw [rowsV]
      have := ih B
      have := hV a b
      split <;> omega
theorem step_key {v : Val} (h : i64ok v.n) (rest : List UInt8) : stepM (keyV (clean v) ++ rest) = some (clean v, rest) := by
  rcases clean_cases v with e | e | e <;> rw [e]
  · rw [keyV_num, List.cons_append, stepM, if_neg (by decide), if_pos rfl, if_neg (by rw [List.length_append, bytesN_len]; omega)]
    have ht : (bytesN (flipN v.n) ++ rest).take 8 = bytesN (flipN v.n) := by rw [List.take_append_of_le_length (by rw [bytesN_len]; exact Nat.le_refl _), List.take_of_length_le (by rw [bytesN_len]; exact Nat.le_refl _)]
    have hd : (bytesN (flipN v.n) ++ rest).drop 8 = rest := by
      have := List.drop_left' (l₁ := bytesN (flipN v.n)) (l₂ := rest) (bytesN_len _)
      exact this
    have hf := flipN_eq h
    have hb := backN_flip h
    unfold i64ok at h
    rw [ht, hd, numL_vb (bytesN_len _), vb_bytesN (by omega) (by omega), hb]; rfl
  · rw [keyV_str, List.cons_append, stepM, if_neg (by decide), if_neg (by decide), if_pos rfl, List.append_assoc, textM_esc]
    simp [textM, str, toB_byts]
  · show stepM (1 :: rest) = _
    rw [stepM, if_pos rfl]
theorem row_key : ∀ (A : List Val) (f : Nat), (∀ v, v ∈ A → i64ok v.n) → (keyL A).length ≤ f → rowF f (keyL A) = some (A.map clean)
  | [], f, _, _ => by cases f <;> rfl
  | v :: r, f, h, hf => by
    rw [keyL_cons] at hf ⊢
    have hs := step_key (h v (by simp)) (keyL r)
    have hl := (stepM_len hs).1
    cases f with
    | zero => omega
    | succ f =>
      rw [rowF_step hs, row_key r f (fun u hu => h u (by simp [hu])) (by omega)]; rfl
theorem rowM_key (A : List Val) (h : ∀ v, v ∈ A → i64ok v.n) : rowM (keyL A) = some (A.map clean) := row_key A _ h (Nat.le_refl _)
end Go.Proofs.YtnhmnfokbinplaaDoor
