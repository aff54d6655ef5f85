/- cell: Order, Test, Cat, True, with what they call; tallyref's Order; the order asked the other way round; The order of two rows: both; The key of a row, tallyref's; A number put behind bytes of one's own; The key of a row, the program's. Own work; no condition. -/
import Derived.Test.YtnhmnfokbinplaaDoorCell1
import Derived.Test.YtnhmnfokbinplaaDoorRa43
import Derived.Test.YtnhmnfokbinplaaDoorAbsX
import Derived.Test.YtnhmnfokbinplaaDoorAbs25
import Derived.Test.YtnhmnfokbinplaaDoorAbsQ
import Derived.Test.YtnhmnfokbinplaaDoorAbs23
import Derived.Test.YtnhmnfokbinplaaDoorAbs26
namespace Go.Proofs.YtnhmnfokbinplaaDoor
open Go Go.RowKit
set_option maxRecDepth 100000
set_option linter.unusedSimpArgs false
set_option linter.unusedVariables false

def cmpS (a b : ByteArray) : Int := Lib.compareBytes a.data.toList b.data.toList
theorem cmpstr_c (a b : ByteArray) : PCall Tryd.prog 44 [.str a, .str b] fun r => r = [.int .i64 (cmpS a b)] :=
  PCall.ext (fn := Tryd.f44) (e := Extern.BytealgCompare.compare) (by kernel_rfl) Tryd.func44 (by kernel_rfl) rfl (by kernel_rfl) (by kernel_rfl) fun m w vals hv => by
    obtain ⟨u, v, rfl, h1, h2⟩ := args2 hv
    cases h1; cases h2
    exact ⟨_, Lib.run_compareString a b w, .p (.int _ _)⟩
theorem compareString_c (a b : ByteArray) : PCall Tryd.prog 37 [.str a, .str b] fun r => r = [.int .i64 (cmpS a b)] := by
  refine PCall.x (nt := 8) (res := [.tmp 4]) mixed tt_ok [] Tryd.func37 rfl rfl rfl c37 (Nat.le_of_ble_eq_true rfl) ?_
  intro cp cc lp Q' hcp hcc hlp hQ
  repeat' (first
    | (with_reducible refine Nm.mk ?_; intro z hz)
    | (with_reducible refine IfB.mk ?_ ?_ <;> (intro h; cases h))
    | (with_reducible refine Two.l ?_; refine Asm.mk ?_ ?_; focus (decide +kernel))
    | (with_reducible refine Two.r ?_)
    | (with_reducible refine TwoT.r ?_)
    | (with_reducible refine Asm.mk ?_ ?_; focus (first | kernel_rfl | decide))
    | (with_reducible refine isCP hcp ?_; first | (refine iP hcp (cmpstr_c a b) ?_; intro z hz))
    | (with_reducible refine isCC hcc ?_; first | (refine iA hcc (cmpstr_c a b) rfl ?_; intro z hz))
    | (with_reducible refine Asm.mk2 ?_ ?_)
    | ((fail_if_success (with_reducible first | refine hQ _ ?_ | refine Side.mk ?_ | refine isCP hcp ?_ | refine isCC hcc ?_ | refine isLP hlp ?_ | refine Ix.mk ?_ | refine SIx.mk ?_ | refine SEx.mk ?_ | refine EIx.mk ?_ | refine RIx.mk ?_ | show False | refine hR ?_ _ ?_ ?_ ?_ ?_ ?_ | refine hR2 ?_ _ ?_ ?_ ?_ ?_ ?_)); cbv))
  all_goals (refine hQ _ ?_; clear hQ hcp hcc hlp; subst_vars; simp_all [])
theorem strCompare_c (a b : ByteArray) : PCall Tryd.prog 26 [.str a, .str b] fun r => r = [.int .i64 (cmpS a b)] := by
  refine PCall.x (nt := 8) (res := [.tmp 4]) mixed tt_ok [] Tryd.func26 rfl rfl rfl c26 (Nat.le_of_ble_eq_true rfl) ?_
  intro cp cc lp Q' hcp hcc hlp hQ
  repeat' (first
    | (with_reducible refine Nm.mk ?_; intro z hz)
    | (with_reducible refine IfB.mk ?_ ?_ <;> (intro h; cases h))
    | (with_reducible refine Two.l ?_; refine Asm.mk ?_ ?_; focus (decide +kernel))
    | (with_reducible refine Two.r ?_)
    | (with_reducible refine TwoT.r ?_)
    | (with_reducible refine Asm.mk ?_ ?_; focus (first | kernel_rfl | decide))
    | (with_reducible refine isCP hcp ?_; first | (refine iP hcp (compareString_c a b) ?_; intro z hz))
    | (with_reducible refine isCC hcc ?_; first | (refine iA hcc (compareString_c a b) rfl ?_; intro z hz))
    | (with_reducible refine Asm.mk2 ?_ ?_)
    | ((fail_if_success (with_reducible first | refine hQ _ ?_ | refine Side.mk ?_ | refine isCP hcp ?_ | refine isCC hcc ?_ | refine isLP hlp ?_ | refine Ix.mk ?_ | refine SIx.mk ?_ | refine SEx.mk ?_ | refine EIx.mk ?_ | refine RIx.mk ?_ | show False | refine hR ?_ _ ?_ ?_ ?_ ?_ ?_ | refine hR2 ?_ _ ?_ ?_ ?_ ?_ ?_)); cbv))
  all_goals (refine hQ _ ?_; clear hQ hcp hcc hlp; subst_vars; simp_all [])
def cmpI (a b : Int) : Int := if a < b then -1 else if b < a then 1 else 0
theorem isNaN1 (a : Int) : PCall Tryd.prog 27 [.int .i64 a] fun r => r = [.bool false] := by
  refine PCall.x (nt := 6) (res := [.tmp 2]) mixed tt_ok [] Tryd.func27 rfl rfl rfl c27 (Nat.le_of_ble_eq_true rfl) ?_
  intro cp cc lp Q' hcp hcc hlp hQ
  repeat' (first
    | (with_reducible refine Nm.mk ?_; intro z hz)
    | (with_reducible refine IfB.mk ?_ ?_ <;> (intro h; cases h))
    | (with_reducible refine Two.l ?_; refine Asm.mk ?_ ?_; focus (decide +kernel))
    | (with_reducible refine Two.r ?_)
    | (with_reducible refine TwoT.r ?_)
    | (with_reducible refine Asm.mk ?_ ?_; focus (first | kernel_rfl | decide))
    | (with_reducible refine Asm.mk2 ?_ ?_)
    | ((fail_if_success (with_reducible first | refine hQ _ ?_ | refine Side.mk ?_ | refine isCP hcp ?_ | refine isCC hcc ?_ | refine isLP hlp ?_ | refine Ix.mk ?_ | refine SIx.mk ?_ | refine SEx.mk ?_ | refine EIx.mk ?_ | refine RIx.mk ?_ | show False | refine hR ?_ _ ?_ ?_ ?_ ?_ ?_ | refine hR2 ?_ _ ?_ ?_ ?_ ?_ ?_)); cbv))
  all_goals (refine hQ _ ?_; clear hQ hcp hcc hlp; subst_vars; simp_all [])
theorem isNaN2 (a : Int) : PCall Tryd.prog 36 [.int .i64 a] fun r => r = [.bool false] := by
  refine PCall.x (nt := 6) (res := [.tmp 2]) mixed tt_ok [] Tryd.func36 rfl rfl rfl c36 (Nat.le_of_ble_eq_true rfl) ?_
  intro cp cc lp Q' hcp hcc hlp hQ
  repeat' (first
    | (with_reducible refine Nm.mk ?_; intro z hz)
    | (with_reducible refine IfB.mk ?_ ?_ <;> (intro h; cases h))
    | (with_reducible refine Two.l ?_; refine Asm.mk ?_ ?_; focus (decide +kernel))
    | (with_reducible refine Two.r ?_)
    | (with_reducible refine TwoT.r ?_)
    | (with_reducible refine Asm.mk ?_ ?_; focus (first | kernel_rfl | decide))
    | (with_reducible refine Asm.mk2 ?_ ?_)
    | ((fail_if_success (with_reducible first | refine hQ _ ?_ | refine Side.mk ?_ | refine isCP hcp ?_ | refine isCC hcc ?_ | refine isLP hlp ?_ | refine Ix.mk ?_ | refine SIx.mk ?_ | refine SEx.mk ?_ | refine EIx.mk ?_ | refine RIx.mk ?_ | show False | refine hR ?_ _ ?_ ?_ ?_ ?_ ?_ | refine hR2 ?_ _ ?_ ?_ ?_ ?_ ?_)); cbv))
  all_goals (refine hQ _ ?_; clear hQ hcp hcc hlp; subst_vars; simp_all [])
theorem compare1_c (a b : Int) : PCall Tryd.prog 14 [.int .i64 a, .int .i64 b] fun r => r = [.int .i64 (cmpI a b)] := by
  refine PCall.x (nt := 20) (res := [.tmp 4]) mixed tt_ok [] Tryd.func14 rfl rfl rfl c14 (Nat.le_of_ble_eq_true rfl) ?_
  intro cp cc lp Q' hcp hcc hlp hQ
  repeat' (first
    | (with_reducible refine Nm.mk ?_; intro z hz)
    | (with_reducible refine IfB.mk ?_ ?_ <;> (intro h; cases h))
    | (with_reducible refine Two.l ?_; refine Asm.mk ?_ ?_; focus (decide +kernel))
    | (with_reducible refine Two.r ?_)
    | (with_reducible refine TwoT.r ?_)
    | (with_reducible refine Asm.mk ?_ ?_; focus (first | kernel_rfl | decide))
    | (with_reducible refine isCP hcp ?_; first | (refine bP hcp (isNaN1 a) ?_; intro z hz) | (refine bP hcp (isNaN1 b) ?_; intro z hz))
    | (with_reducible refine isCC hcc ?_; first | (refine bA hcc (isNaN1 a) rfl ?_; intro z hz) | (refine bA hcc (isNaN1 b) rfl ?_; intro z hz))
    | (with_reducible refine Asm.mk2 ?_ ?_)
    | ((fail_if_success (with_reducible first | refine hQ _ ?_ | refine Side.mk ?_ | refine isCP hcp ?_ | refine isCC hcc ?_ | refine isLP hlp ?_ | refine Ix.mk ?_ | refine SIx.mk ?_ | refine SEx.mk ?_ | refine EIx.mk ?_ | refine RIx.mk ?_ | show False | refine hR ?_ _ ?_ ?_ ?_ ?_ ?_ | refine hR2 ?_ _ ?_ ?_ ?_ ?_ ?_)); cbv))
  all_goals (refine hQ _ ?_; clear hQ hcp hcc hlp; subst_vars; simp_all [cmpI]; try omega)
theorem compare2_c (a b : Int) : PCall Tryd.prog 25 [.int .i64 a, .int .i64 b] fun r => r = [.int .i64 (cmpI a b)] := by
  refine PCall.x (nt := 20) (res := [.tmp 4]) mixed tt_ok [] Tryd.func25 rfl rfl rfl c25 (Nat.le_of_ble_eq_true rfl) ?_
  intro cp cc lp Q' hcp hcc hlp hQ
  repeat' (first
    | (with_reducible refine Nm.mk ?_; intro z hz)
    | (with_reducible refine IfB.mk ?_ ?_ <;> (intro h; cases h))
    | (with_reducible refine Two.l ?_; refine Asm.mk ?_ ?_; focus (decide +kernel))
    | (with_reducible refine Two.r ?_)
    | (with_reducible refine TwoT.r ?_)
    | (with_reducible refine Asm.mk ?_ ?_; focus (first | kernel_rfl | decide))
    | (with_reducible refine isCP hcp ?_; first | (refine bP hcp (isNaN2 a) ?_; intro z hz) | (refine bP hcp (isNaN2 b) ?_; intro z hz))
    | (with_reducible refine isCC hcc ?_; first | (refine bA hcc (isNaN2 a) rfl ?_; intro z hz) | (refine bA hcc (isNaN2 b) rfl ?_; intro z hz))
    | (with_reducible refine Asm.mk2 ?_ ?_)
    | ((fail_if_success (with_reducible first | refine hQ _ ?_ | refine Side.mk ?_ | refine isCP hcp ?_ | refine isCC hcc ?_ | refine isLP hlp ?_ | refine Ix.mk ?_ | refine SIx.mk ?_ | refine SEx.mk ?_ | refine EIx.mk ?_ | refine RIx.mk ?_ | show False | refine hR ?_ _ ?_ ?_ ?_ ?_ ?_ | refine hR2 ?_ _ ?_ ?_ ?_ ?_ ?_)); cbv))
  all_goals (refine hQ _ ?_; clear hQ hcp hcc hlp; subst_vars; simp_all [cmpI]; try omega)

def orI : List Int → Int
  | [] => 0
  | x :: r => if x = 0 then orI r else x
theorem or_c (l : List Int) (L : List (List PV)) (hL : l.map i64c = L) (hs : l.length ≤ 1000) : PCall Tryd.prog 24 [.sl L] fun r => r = [.int .i64 (orI l)] := by
  have hLl : L.length = l.length := by rw [← hL]; simp
  refine PCall.x (nt := 18) (res := [.tmp 2]) mixed tt_ok [] Tryd.func24 rfl rfl rfl c24 (Nat.le_of_ble_eq_true rfl) ?_
  intro cp cc lp Q' hcp hcc hlp hQ
  repeat' (first
    | (with_reducible refine Nm.mk ?_; intro z hz)
    | (with_reducible refine IfB.mk ?_ ?_ <;> (intro h; cases h))
    | (with_reducible refine Two.l ?_; refine Asm.mk ?_ ?_; focus (decide +kernel))
    | (with_reducible refine Two.r ?_)
    | (with_reducible refine TwoT.r ?_)
    | (with_reducible refine Asm.mk ?_ ?_; focus (first | kernel_rfl | decide))
    | (with_reducible refine Asm.mk2 ?_ ?_)
    | ((fail_if_success (with_reducible first | refine hQ _ ?_ | refine Side.mk ?_ | refine isCP hcp ?_ | refine isCC hcc ?_ | refine isLP hlp ?_ | refine Ix.mk ?_ | refine SIx.mk ?_ | refine SEx.mk ?_ | refine EIx.mk ?_ | refine RIx.mk ?_ | show False | refine hR ?_ _ ?_ ?_ ?_ ?_ ?_ | refine hR2 ?_ _ ?_ ?_ ?_ ?_ ?_)); cbv))
  simp only [nc] at hz
  simp only [nc'] at hz
  refine loopK (ι := Int) mixed tt_ok hcp hcc hlp [3, 6, 7] (fun i => [(8, .p (.int .i64 i))]) (fun i => (0 ≤ i ∧ i ≤ z) ∧ orI (l.drop i.toNat) = orI l) (fun i => (z - i).toNat) 0 (fun _ => rfl) ⟨by omega, rfl⟩ ⟨rfl, trivial⟩ ?_
  intro R i hi hR
  have hi0 : 0 ≤ i := hi.1.1
  have hi1 : i ≤ z := hi.1.2
  have hd := hi.2
  have hk : decide (i < z) = true → i < l.length := by simp only [decide_eq_true_eq]; omega
  have hge : decide (i < z) = false → l.drop i.toNat = [] := by intro h; simp only [decide_eq_false_iff_not] at h; exact List.drop_eq_nil_of_le (by omega)
  have hst : decide (i < z) = true → IntKind.i64.wrap (i + 1) = i + 1 ∧ (0 ≤ i + 1 ∧ i + 1 ≤ z) ∧ (z - (i + 1)).toNat < (z - i).toNat := by
    intro h
    simp only [decide_eq_true_eq] at h
    exact ⟨wrap_in (by omega), by omega, by omega⟩
  have hdr : ∀ x, l[i.toNat]? = some x → l.drop i.toNat = x :: l.drop (i + 1).toNat := by
    intro x hx
    have hlt := (List.getElem?_eq_some_iff.1 hx).1
    rw [List.drop_eq_getElem_cons hlt, show (i + 1).toNat = i.toNat + 1 by omega]
    congr 1
    exact (List.getElem?_eq_some_iff.1 hx).2
  repeat' (first
    | (with_reducible refine Nm.mk ?_; intro z hz)
    | (with_reducible refine IfB.mk ?_ ?_ <;> (intro h; cases h))
    | (with_reducible refine Two.l ?_; refine Asm.mk ?_ ?_; focus (decide +kernel))
    | (with_reducible refine Two.r ?_)
    | (with_reducible refine TwoT.r ?_)
    | (with_reducible refine Asm.mk ?_ ?_; focus kernel_rfl)
    | (with_reducible refine Ix.map hL i64c_len (by decide) hi0 (hk (by assumption)) ?_; intro x hx)
    | (with_reducible refine Asm.mk2 ?_ ?_)
    | ((fail_if_success (with_reducible first | refine hQ _ ?_ | refine Side.mk ?_ | refine isCP hcp ?_ | refine isCC hcc ?_ | refine isLP hlp ?_ | refine Ix.mk ?_ | refine SIx.mk ?_ | refine SEx.mk ?_ | refine EIx.mk ?_ | refine RIx.mk ?_ | show False | refine hR ?_ _ ?_ ?_ ?_ ?_ ?_ | refine hR2 ?_ _ ?_ ?_ ?_ ?_ ?_)); cbv))
  · refine hQ _ ?_
    rw [← hd, hdr x hx]
    have : ¬ x = 0 := by clear hQ hR hcp hcc hlp; simp_all
    simp [orI, this]
  · obtain ⟨e1, e2, e3⟩ := hst (by assumption)
    rw [e1] at hz
    refine hR (i + 1) _ ⟨e2, ?_⟩ e3 ⟨hz ▸ rfl, trivial⟩ ⟨rfl, rfl, rfl, trivial⟩ rfl
    rw [hdr x hx] at hd
    have : x = 0 := by clear hQ hR hcp hcc hlp; simp_all
    rw [← hd]; simp [orI, this]
  · refine hQ _ ?_
    rw [← hd, hge (by assumption)]; rfl

theorem or3_c (a b c : Int) : PCall Tryd.prog 24 [.sl [[.int .i64 a], [.int .i64 b], [.int .i64 c]]] fun r => r = [.int .i64 (orI [a, b, c])] := or_c [a, b, c] _ rfl (by simp)
def orderV (a b : Val) : Int := orI [cmpI (clean a).k (clean b).k, cmpI (clean a).n (clean b).n, cmpS (clean a).s (clean b).s]
theorem order_c (k n : Int) (s : ByteArray) (k' n' : Int) (s' : ByteArray) : PCall Tryd.prog 13 [.agg [.int .i64 k, .int .i64 n, .str s], .agg [.int .i64 k', .int .i64 n', .str s']] fun r => r = [.int .i64 (orderV ⟨k, n, s⟩ ⟨k', n', s'⟩)] := by
  refine PCall.x (nt := 26) (res := [.tmp 4]) mixed tt_ok [] Tryd.func13 rfl rfl rfl c13 (Nat.le_of_ble_eq_true rfl) ?_
  intro cp cc lp Q' hcp hcc hlp hQ
  repeat' (first
    | (with_reducible refine Nm.mk ?_; intro z hz)
    | (with_reducible refine IfB.mk ?_ ?_ <;> (intro h; cases h))
    | (with_reducible refine Two.l ?_; refine Asm.mk ?_ ?_; focus (decide +kernel))
    | (with_reducible refine Two.r ?_)
    | (with_reducible refine TwoT.r ?_)
    | (with_reducible refine Asm.mk ?_ ?_; focus (first | kernel_rfl | decide))
    | (with_reducible refine isCP hcp ?_; first | (refine vP hcp (clean_c k n s) ?_; intro v hv) | (refine vP hcp (clean_c k' n' s') ?_; intro v hv) | (refine iP hcp (compare1_c _ _) ?_; intro z hz) | (refine iP hcp (compare2_c _ _) ?_; intro z hz) | (refine iP hcp (strCompare_c _ _) ?_; intro z hz) | (refine iP hcp (or3_c _ _ _) ?_; intro z hz))
    | (with_reducible refine isCC hcc ?_; first | (refine vA hcc (clean_c k n s) rfl ?_; intro v hv) | (refine vA hcc (clean_c k' n' s') rfl ?_; intro v hv) | (refine iA hcc (compare1_c _ _) rfl ?_; intro z hz) | (refine iA hcc (compare2_c _ _) rfl ?_; intro z hz) | (refine iA hcc (strCompare_c _ _) rfl ?_; intro z hz) | (refine iA hcc (or3_c _ _ _) rfl ?_; intro z hz))
    | (with_reducible refine Asm.mk2 ?_ ?_)
    | ((fail_if_success (with_reducible first | refine hQ _ ?_ | refine Side.mk ?_ | refine isCP hcp ?_ | refine isCC hcc ?_ | refine isLP hlp ?_ | refine Ix.mk ?_ | refine SIx.mk ?_ | refine SEx.mk ?_ | refine EIx.mk ?_ | refine RIx.mk ?_ | show False | refine hR ?_ _ ?_ ?_ ?_ ?_ ?_ | refine hR2 ?_ _ ?_ ?_ ?_ ?_ ?_)); cbv))
  all_goals (refine hQ _ ?_; clear hQ hcp hcc hlp; subst_vars; simp [orderV])
end Go.Proofs.YtnhmnfokbinplaaDoor

namespace Go.Proofs.YtnhmnfokbinplaaDoor
open Go Go.RowKit
set_option maxRecDepth 100000
set_option linter.unusedSimpArgs false
set_option linter.unusedVariables false

def cmpB_o (less same : Bool) : Int := if same = true then 0 else if less = true then -1 else 1
theorem rcmp_c_o (less same : Bool) : PCall Tryd.prog 16 [.bool less, .bool same] fun r => r = [.int .i64 (cmpB_o less same)] := by
  refine PCall.x (nt := 7) (res := [.tmp 4]) mixed tt_ok [] Tryd.func16 rfl rfl rfl c16 (Nat.le_of_ble_eq_true rfl) ?_
  intro cp cc lp Q' hcp hcc hlp hQ
  repeat' (first
    | (with_reducible refine Nm.mk ?_; intro z hz)
    | (with_reducible refine IfB.mk ?_ ?_ <;> (intro h; cases h))
    | (with_reducible refine Two.l ?_; refine Asm.mk ?_ ?_; focus (decide +kernel))
    | (with_reducible refine Two.r ?_)
    | (with_reducible refine TwoT.r ?_)
    | (with_reducible refine Asm.mk ?_ ?_; focus (first | kernel_rfl | decide))
    | (with_reducible refine Asm.mk2 ?_ ?_)
    | ((fail_if_success (with_reducible first | refine hQ _ ?_ | refine Side.mk ?_ | refine isCP hcp ?_ | refine isCC hcc ?_ | refine isLP hlp ?_ | refine Ix.mk ?_ | refine SIx.mk ?_ | refine SEx.mk ?_ | refine EIx.mk ?_ | refine RIx.mk ?_ | show False | refine hR ?_ _ ?_ ?_ ?_ ?_ ?_ | refine hR2 ?_ _ ?_ ?_ ?_ ?_ ?_)); cbv))
  all_goals (refine hQ _ ?_; clear hQ hcp hcc hlp; rfl)
theorem less_cmp_o : ∀ a b : List UInt8, (if (a == b) = true then (0 : Int) else if Op.bytesLess a b = true then -1 else 1) = Lib.compareBytes a b
  | [], [] => by simp [Lib.compareBytes]
  | [], _ :: _ => by simp [Lib.compareBytes, Op.bytesLess]
  | _ :: _, [] => by simp [Lib.compareBytes, Op.bytesLess]
  | x :: a, y :: b => by
    have ih := less_cmp_o a b
    rw [Lib.compareBytes, ← ih]
    by_cases h1 : x < y
    · have : x ≠ y := by rintro rfl; exact UInt8.lt_irrefl _ h1
      simp [Op.bytesLess, h1, this]
    · by_cases h2 : y < x
      · have : x ≠ y := by rintro rfl; exact UInt8.lt_irrefl _ h2
        simp [Op.bytesLess, h1, h2, this]
      · have : x = y := by
          rw [UInt8.lt_iff_toNat_lt] at h1 h2
          exact UInt8.toNat_inj.1 (by omega)
        subst this
        simp [Op.bytesLess, h1]
theorem cmp_str_o (a b : ByteArray) : cmpB_o (sless a b) (sbeq a b) = cmpS a b := by
  unfold cmpS
  rw [← less_cmp_o]
  unfold cmpB_o sless sbeq
  rw [ByteArray.toList_eq, ByteArray.toList_eq]
theorem cmpS_self_o (a : ByteArray) : cmpS a a = 0 := by unfold cmpS; rw [← less_cmp_o]; simp
theorem cmp_int_o (a b : Int) : cmpB_o (decide (a < b)) (decide (a = b)) = cmpI a b := by
  unfold cmpB_o cmpI
  by_cases h : a = b
  · subst h; simp
  · by_cases g : a < b <;> simp [h, g] <;> omega
theorem cmp_ne_o {a b : Int} (h : ¬ a = b) : cmpB_o (decide (a < b)) false = cmpI a b := by
  rw [← cmp_int_o, decide_eq_false h]
theorem cmpI_ne_o {a b : Int} (h : ¬ a = b) : ¬ cmpI a b = 0 := by unfold cmpI; split <;> (try split) <;> omega
theorem cmpI_self_o (a : Int) : cmpI a a = 0 := by unfold cmpI; simp
theorem clean_k1_o {v : Val} (h : (clean v).k = 1) : (clean v).s = ⟨#[]⟩ := by
  unfold clean at h ⊢; split at h
  · rename_i g; rw [if_pos g]
  · split at h
    · cases h
    · cases h
theorem clean_k2_o {v : Val} (h : ¬ (clean v).k = 1) : (clean v).n = 0 := by
  unfold clean at h ⊢; split at h
  · exact absurd rfl h
  · rename_i g; rw [if_neg g]; split <;> rfl
theorem rorder_o (k n : Int) (s : ByteArray) (k' n' : Int) (s' : ByteArray) : PCall Tryd.prog 15 [.agg [.int .i64 k, .int .i64 n, .str s], .agg [.int .i64 k', .int .i64 n', .str s']] fun r => r = [.int .i64 (orderV ⟨k, n, s⟩ ⟨k', n', s'⟩)] := by
  have c1 := rclean_c k n s
  have c2 := rclean_c k' n' s'
  have a1 := @clean_k1_o ⟨k, n, s⟩
  have a2 := @clean_k1_o ⟨k', n', s'⟩
  have b1 := @clean_k2_o ⟨k, n, s⟩
  have b2 := @clean_k2_o ⟨k', n', s'⟩
  unfold orderV
  obtain ⟨u, hu⟩ : ∃ u, clean ⟨k, n, s⟩ = u := ⟨_, rfl⟩
  obtain ⟨v, hv⟩ : ∃ u, clean ⟨k', n', s'⟩ = u := ⟨_, rfl⟩
  rw [hu] at c1 a1 b1 ⊢
  rw [hv] at c2 a2 b2 ⊢
  obtain ⟨uk, un, us⟩ := u
  obtain ⟨vk, vn, vs⟩ := v
  simp only [Val.enc] at c1 c2
  simp only at a1 a2 b1 b2 ⊢
  have e1 : (!decide (uk = vk)) = true → cmpB_o (decide (uk < vk)) false = orI [cmpI uk vk, cmpI un vn, cmpS us vs] := by
    intro h; simp only [Bool.not_eq_true', decide_eq_false_iff_not] at h
    rw [cmp_ne_o h]; unfold orI; rw [if_neg (cmpI_ne_o h)]
  have e2 : (!decide (uk = vk)) = false → decide (uk = 1) = true → cmpB_o (decide (un < vn)) (decide (un = vn)) = orI [cmpI uk vk, cmpI un vn, cmpS us vs] := by
    intro h g; simp only [Bool.not_eq_false', decide_eq_true_eq] at h g
    subst h
    rw [cmp_int_o, a1 g, a2 g, cmpS_self_o, cmpI_self_o]
    simp only [orI, if_true]; split
    · rename_i q; exact q
    · rfl
  have e3 : (!decide (uk = vk)) = false → decide (uk = 1) = false → cmpB_o (sless us vs) (sbeq us vs) = orI [cmpI uk vk, cmpI un vn, cmpS us vs] := by
    intro h g; simp only [Bool.not_eq_false', decide_eq_true_eq, decide_eq_false_iff_not] at h g
    subst h
    rw [cmp_str_o, b1 g, b2 g, cmpI_self_o, cmpI_self_o]
    simp only [orI, if_true]; split
    · rename_i q; exact q
    · rfl
  obtain ⟨Z, hZ⟩ : ∃ Z, orI [cmpI uk vk, cmpI un vn, cmpS us vs] = Z := ⟨_, rfl⟩
  rw [hZ] at e1 e2 e3 ⊢
  clear hu hv a1 a2 b1 b2 hZ
  refine PCall.x (nt := 45) (res := [.tmp 4]) mixed tt_ok [] Tryd.func15 rfl rfl rfl c15 (Nat.le_of_ble_eq_true rfl) ?_
  intro cp cc lp Q' hcp hcc hlp hQ
  repeat' (first
    | (with_reducible refine Nm.mk ?_; intro z hz)
    | (with_reducible refine IfB.mk ?_ ?_ <;> (intro h; cases h))
    | (with_reducible refine Two.l ?_; refine Asm.mk ?_ ?_; focus (decide +kernel))
    | (with_reducible refine Two.r ?_)
    | (with_reducible refine TwoT.r ?_)
    | (with_reducible refine Asm.mk ?_ ?_; focus (first | kernel_rfl | decide))
    | (with_reducible refine isCP hcp ?_; first | (refine xP hcp (c1) ?_; skip) | (refine xP hcp (c2) ?_; skip) | (refine iP hcp (rcmp_c_o _ _) ?_; intro z hz))
    | (with_reducible refine isCC hcc ?_; first | (refine xA hcc (c1) rfl ?_; skip) | (refine xA hcc (c2) rfl ?_; skip) | (refine iA hcc (rcmp_c_o _ _) rfl ?_; intro z hz))
    | (with_reducible refine Asm.mk2 ?_ ?_)
    | ((fail_if_success (with_reducible first | refine hQ _ ?_ | refine Side.mk ?_ | refine isCP hcp ?_ | refine isCC hcc ?_ | refine isLP hlp ?_ | refine Ix.mk ?_ | refine SIx.mk ?_ | refine SEx.mk ?_ | refine EIx.mk ?_ | refine RIx.mk ?_ | show False | refine hR ?_ _ ?_ ?_ ?_ ?_ ?_ | refine hR2 ?_ _ ?_ ?_ ?_ ?_ ?_)); cbv))
  all_goals (refine hQ _ ?_)
  · rw [← e1 (by assumption)]; clear hQ hcp hcc hlp c1 c2 e1 e2 e3; subst_vars; rfl
  · rw [← e2 (by assumption) (by assumption)]; clear hQ hcp hcc hlp c1 c2 e1 e2 e3; subst_vars; rfl
  · rw [← e3 (by assumption) (by assumption)]; clear hQ hcp hcc hlp c1 c2 e1 e2 e3; subst_vars; rfl

end Go.Proofs.YtnhmnfokbinplaaDoor

namespace Go.Proofs.YtnhmnfokbinplaaDoor
open Go Go.RowKit
set_option maxRecDepth 100000
set_option linter.unusedSimpArgs false
set_option linter.unusedVariables false

def rowsV : List Val → List Val → Int
  | a :: r, b :: q => if orderV a b = 0 then rowsV r q else orderV a b
  | l, m => cmpI l.length m.length
theorem rowsV_nil (m : List Val) : rowsV [] m = cmpI 0 m.length := by cases m <;> rfl
theorem rowsV_nil2 (l : List Val) : rowsV l [] = cmpI l.length 0 := by cases l <;> rfl
theorem rowsV_step {A B : List Val} {i : Nat} {a b : Val} (ha : A[i]? = some a) (hb : B[i]? = some b) : rowsV (A.drop i) (B.drop i) = if orderV a b = 0 then rowsV (A.drop (i + 1)) (B.drop (i + 1)) else orderV a b := by
  obtain ⟨h1, rfl⟩ := List.getElem?_eq_some_iff.1 ha
  obtain ⟨h2, rfl⟩ := List.getElem?_eq_some_iff.1 hb
  rw [List.drop_eq_getElem_cons h1, List.drop_eq_getElem_cons h2, rowsV]
theorem cmpI_sub {a b i : Int} : cmpI (a - i) (b - i) = cmpI a b := by
  unfold cmpI
  by_cases h : a < b
  · rw [if_pos (by omega), if_pos h]
  · rw [if_neg (by omega), if_neg h]
    by_cases h2 : b < a
    · rw [if_pos (by omega), if_pos h2]
    · rw [if_neg (by omega), if_neg h2]
theorem rowsV_end {A B : List Val} {i : Nat} (h1 : i ≤ A.length) (h2 : i ≤ B.length) (h : A.length ≤ i ∨ B.length ≤ i) : rowsV (A.drop i) (B.drop i) = cmpI A.length B.length := by
  rcases h with h | h
  · rw [List.drop_eq_nil_of_le h, rowsV_nil, List.length_drop, ← cmpI_sub (a := A.length) (i := i)]
    congr 1 <;> omega
  · rw [List.drop_eq_nil_of_le h, rowsV_nil2, List.length_drop, ← cmpI_sub (a := A.length) (i := i)]
    congr 1 <;> omega
theorem Ix.rv {l : List (List PV)} {v : List Val} {n : Int} {K : List PV → Prop} (hl : v.map Val.cells = l) (h0 : 0 ≤ n) (hn : n.toNat < v.length) (k : ∀ a b c, v[n.toNat]? = some ⟨a, b, c⟩ → K [.int .i64 a, .int .i64 b, .str c]) : Ix 3 l n K := by
  obtain ⟨⟨a, b, c⟩, hx⟩ : ∃ x, v[n.toNat]? = some x := ⟨v[n.toNat], List.getElem?_eq_getElem hn⟩
  exact ⟨⟨[.int .i64 a, .int .i64 b, .str c], h0, by rw [← hl, List.getElem?_map, hx]; rfl, rfl, by decide, k a b c hx⟩⟩
set_option maxHeartbeats 2000000 in
theorem crows_c (A B : List Val) (CA CB : List (List PV)) (hA : A.map Val.cells = CA) (hB : B.map Val.cells = CB) (ha : A.length ≤ 140737488355328) (hb : B.length ≤ 140737488355328) : PCall Tryd.prog 5 [.sl CA, .sl CB] fun r => r = [.int .i64 (rowsV A B)] := by
  have hAl : CA.length = A.length := by rw [← hA]; simp
  have hBl : CB.length = B.length := by rw [← hB]; simp
  obtain ⟨q, hq⟩ : ∃ q, rowsV A B = q := ⟨_, rfl⟩
  rw [hq]
  have hmin : ∀ z1 z2 z : Int, (CA.length : Int) = z1 → (CB.length : Int) = z2 → (if z2 < z1 then z2 else z1) = z → z.toNat = min A.length B.length ∧ 0 ≤ z := by
    intro z1 z2 z h1 h2 h3; split at h3 <;> omega
  refine PCall.x (nt := 33) (res := [.tmp 4]) mixed tt_ok [] Tryd.func5 rfl rfl rfl c5 (Nat.le_of_ble_eq_true rfl) ?_
  intro cp cc lp Q' hcp hcc hlp hQ
  repeat' (first
    | (with_reducible refine Nm.mk ?_; intro z hz)
    | (with_reducible refine IfB.mk ?_ ?_ <;> (intro h; cases h))
    | (with_reducible refine Two.l ?_; refine Asm.mk ?_ ?_; focus (decide +kernel))
    | (with_reducible refine Two.r ?_)
    | (with_reducible refine TwoT.r ?_)
    | (with_reducible refine Asm.mk ?_ ?_; focus (first | kernel_rfl | decide))
    | (with_reducible refine Asm.mk2 ?_ ?_)
    | ((fail_if_success (with_reducible first | refine hQ _ ?_ | refine Side.mk ?_ | refine isCP hcp ?_ | refine isCC hcc ?_ | refine isLP hlp ?_ | refine Ix.mk ?_ | refine SIx.mk ?_ | refine SEx.mk ?_ | refine EIx.mk ?_ | refine RIx.mk ?_ | show False | refine hR ?_ _ ?_ ?_ ?_ ?_ ?_ | refine hR2 ?_ _ ?_ ?_ ?_ ?_ ?_)); cbv))
  rename_i za hza zb hzb
  have hzl := hmin _ _ _ hza hzb hz
  clear hz hmin hza hzb
  generalize z = zl at *
  refine loopK (ι := Int) mixed tt_ok hcp hcc hlp [0, 1, 11] (fun i => [(12, .p (.int .i64 i))]) (fun i => Rng (min A.length B.length) zl i ∧ rowsV (A.drop i.toNat) (B.drop i.toNat) = q) (fun i => (zl - i).toNat) 0 (fun _ => rfl) ⟨Rng.start hzl (by omega), hq⟩ ⟨rfl, trivial⟩ ?_
  rintro R i ⟨rg, hi⟩ hR
  have hlt : decide (i < zl) = true → i.toNat < A.length ∧ i.toNat < B.length := fun h => by have := rg.ltN h; omega
  have hend : decide (i < zl) = false → cmpI CA.length CB.length = q := fun h => by
    obtain ⟨e1, e2, e3⟩ := rg.stop h
    have := rg.lo
    rw [hAl, hBl, ← rowsV_end (i := i.toNat) (by omega) (by omega) (by omega), hi]
  have hst : ∀ a b, A[i.toNat]? = some a → B[i.toNat]? = some b → (if orderV a b = 0 then rowsV (A.drop (i + 1).toNat) (B.drop (i + 1).toNat) else orderV a b) = q := by
    intro a b h1 h2
    rw [← hi, rowsV_step h1 h2, rg.toNat]
  repeat' (first
    | (with_reducible refine Nm.mk ?_; intro z hz)
    | (with_reducible refine IfB.mk ?_ ?_ <;> (intro h; cases h))
    | (with_reducible refine Two.l ?_; refine Asm.mk ?_ ?_; focus (decide +kernel))
    | (with_reducible refine Two.r ?_)
    | (with_reducible refine TwoT.r ?_)
    | (with_reducible refine Asm.mk ?_ ?_; focus kernel_rfl)
    | (with_reducible refine isCP hcp ?_; first | (refine iP hcp (order_c _ _ _ _ _ _) ?_; intro z hz) | (refine iP hcp (compare1_c _ _) ?_; intro z hz))
    | (with_reducible refine isCC hcc ?_; first | (refine iA hcc (order_c _ _ _ _ _ _) rfl ?_; intro z hz) | (refine iA hcc (compare1_c _ _) rfl ?_; intro z hz))
    | (with_reducible refine Ix.rv hA rg.lo (hlt (by assumption)).1 ?_; intro k1 n1 s1 hx1)
    | (with_reducible refine Ix.rv hB rg.lo (hlt (by assumption)).2 ?_; intro k2 n2 s2 hx2)
    | (with_reducible refine Asm.mk2 ?_ ?_)
    | ((fail_if_success (with_reducible first | refine hQ _ ?_ | refine Side.mk ?_ | refine isCP hcp ?_ | refine isCC hcc ?_ | refine isLP hlp ?_ | refine Ix.mk ?_ | refine SIx.mk ?_ | refine SEx.mk ?_ | refine EIx.mk ?_ | refine RIx.mk ?_ | show False | refine hR ?_ _ ?_ ?_ ?_ ?_ ?_ | refine hR2 ?_ _ ?_ ?_ ?_ ?_ ?_)); cbv))
  · refine hQ _ ?_
    have h0 := hst _ _ hx1 hx2
    rename_i h1
    rw [h1, if_neg (by simpa using hz)] at h0
    rw [h0]
  · have hl : decide (i < zl) = true := by assumption
    rw [rg.wrap hl] at hz
    have h0 := hst _ _ hx1 hx2
    rename_i z0 h1 h2
    rw [h1, if_pos (by simpa using h2)] at h0
    exact hR (i + 1) _ ⟨rg.next hl, h0⟩ (rg.less hl) ⟨hz ▸ rfl, trivial⟩ ⟨rfl, rfl, rfl, trivial⟩ rfl
  · refine hQ _ ?_
    have h0 := hend (by assumption)
    rename_i h1 _ h2
    rw [h1, h2, hz] at h0
    rw [h0]
set_option maxHeartbeats 2000000 in
theorem rrows_c (A B : List Val) (CA CB : List (List PV)) (hA : A.map Val.cells = CA) (hB : B.map Val.cells = CB) (ha : A.length ≤ 140737488355328) (hb : B.length ≤ 140737488355328) : PCall Tryd.prog 6 [.sl CA, .sl CB] fun r => r = [.int .i64 (rowsV A B)] := by
  have hAl : CA.length = A.length := by rw [← hA]; simp
  have hBl : CB.length = B.length := by rw [← hB]; simp
  obtain ⟨q, hq⟩ : ∃ q, rowsV A B = q := ⟨_, rfl⟩
  rw [hq]
  refine PCall.x (nt := 42) (res := [.tmp 4]) mixed tt_ok [] Tryd.func6 rfl rfl rfl c6 (Nat.le_of_ble_eq_true rfl) ?_
  intro cp cc lp Q' hcp hcc hlp hQ
  repeat' (first
    | (with_reducible refine Nm.mk ?_; intro z hz)
    | (with_reducible refine IfB.mk ?_ ?_ <;> (intro h; cases h))
    | (with_reducible refine Two.l ?_; refine Asm.mk ?_ ?_; focus (decide +kernel))
    | (with_reducible refine Two.r ?_)
    | (with_reducible refine TwoT.r ?_)
    | (with_reducible refine Asm.mk ?_ ?_; focus (first | kernel_rfl | decide))
    | (with_reducible refine Asm.mk2 ?_ ?_)
    | ((fail_if_success (with_reducible first | refine hQ _ ?_ | refine Side.mk ?_ | refine isCP hcp ?_ | refine isCC hcc ?_ | refine isLP hlp ?_ | refine Ix.mk ?_ | refine SIx.mk ?_ | refine SEx.mk ?_ | refine EIx.mk ?_ | refine RIx.mk ?_ | show False | refine hR ?_ _ ?_ ?_ ?_ ?_ ?_ | refine hR2 ?_ _ ?_ ?_ ?_ ?_ ?_)); cbv))
  refine loopK (ι := Int) mixed tt_ok hcp hcc hlp [0, 1] (fun i => [(5, .p (.int .i64 i))]) (fun i => (0 ≤ i ∧ i.toNat ≤ A.length ∧ i.toNat ≤ B.length) ∧ rowsV (A.drop i.toNat) (B.drop i.toNat) = q) (fun i => A.length - i.toNat) 0 (fun _ => rfl) ⟨⟨by omega, by simp, by simp⟩, hq⟩ ⟨rfl, trivial⟩ ?_
  rintro R i ⟨⟨h0, h1, h2⟩, hi⟩ hR
  have hltA : ∀ z : Int, (CA.length : Int) = z → decide (i < z) = true → i.toNat < A.length := by intro z h g; have := of_decide_eq_true g; omega
  have hltB : ∀ z : Int, (CB.length : Int) = z → decide (i < z) = true → i.toNat < B.length := by intro z h g; have := of_decide_eq_true g; omega
  have hend : ∀ z1 z2 : Int, (CA.length : Int) = z1 → (CB.length : Int) = z2 → (decide (i < z1) = false ∨ decide (i < z2) = false) → cmpB_o (decide (z1 < z2)) (decide (z1 = z2)) = q := by
    intro z1 z2 e1 e2 h
    rw [cmp_int_o, ← e1, ← e2, hAl, hBl, ← rowsV_end (i := i.toNat) h1 h2 (by rcases h with h | h <;> (have := of_decide_eq_false h; omega)), hi]
  have hst : ∀ a b, A[i.toNat]? = some a → B[i.toNat]? = some b → (if orderV a b = 0 then rowsV (A.drop (i + 1).toNat) (B.drop (i + 1).toNat) else orderV a b) = q := by
    intro a b h1 h2
    rw [← hi, rowsV_step h1 h2, show (i + 1).toNat = i.toNat + 1 by omega]
  repeat' (first
    | (with_reducible refine Nm.mk ?_; intro z hz)
    | (with_reducible refine IfB.mk ?_ ?_ <;> (intro h; cases h))
    | (with_reducible refine Two.l ?_; refine Asm.mk ?_ ?_; focus (decide +kernel))
    | (with_reducible refine Two.r ?_)
    | (with_reducible refine TwoT.r ?_)
    | (with_reducible refine Asm.mk ?_ ?_; focus kernel_rfl)
    | (with_reducible refine isCP hcp ?_; first | (refine iP hcp (rorder_o _ _ _ _ _ _) ?_; intro z hz) | (refine iP hcp (rcmp_c_o _ _) ?_; intro z hz))
    | (with_reducible refine isCC hcc ?_; first | (refine iA hcc (rorder_o _ _ _ _ _ _) rfl ?_; intro z hz) | (refine iA hcc (rcmp_c_o _ _) rfl ?_; intro z hz))
    | (with_reducible refine Ix.rv hA h0 (hltA _ (by assumption) (by assumption)) ?_; intro k1 n1 s1 hx1)
    | (with_reducible refine Ix.rv hB h0 (hltB _ (by assumption) (by assumption)) ?_; intro k2 n2 s2 hx2)
    | (with_reducible refine Asm.mk2 ?_ ?_)
    | ((fail_if_success (with_reducible first | refine hQ _ ?_ | refine Side.mk ?_ | refine isCP hcp ?_ | refine isCC hcc ?_ | refine isLP hlp ?_ | refine Ix.mk ?_ | refine SIx.mk ?_ | refine SEx.mk ?_ | refine EIx.mk ?_ | refine RIx.mk ?_ | show False | refine hR ?_ _ ?_ ?_ ?_ ?_ ?_ | refine hR2 ?_ _ ?_ ?_ ?_ ?_ ?_)); cbv))
  · refine hQ _ ?_
    have h0 := hst _ _ hx1 hx2
    rename_i h1
    rw [h1, if_neg (by simpa using hz)] at h0
    rw [h0]
  · have hl : i.toNat < A.length ∧ i.toNat < B.length := ⟨hltA _ (by assumption) (by assumption), hltB _ (by assumption) (by assumption)⟩
    rw [wrap_in (by omega)] at hz
    have h3 := hst _ _ hx1 hx2
    rename_i z0 h4 h5
    rw [h4, if_pos (by simpa using h5)] at h3
    exact hR (i + 1) _ ⟨⟨by omega, by omega, by omega⟩, h3⟩ (by show A.length - (i + 1).toNat < A.length - i.toNat; omega) ⟨hz ▸ rfl, trivial⟩ ⟨rfl, rfl, trivial⟩ rfl
  all_goals
    (refine hQ _ ?_
     clear hQ hcp hcc hlp hR hst hltA hltB
     subst_vars
     rw [hend _ _ rfl rfl (by first | exact .inl (by assumption) | exact .inr (by assumption))])
end Go.Proofs.YtnhmnfokbinplaaDoor

namespace Go.Proofs.YtnhmnfokbinplaaDoor
open Go Go.RowKit
set_option maxRecDepth 100000
set_option linter.unusedSimpArgs false
set_option linter.unusedVariables false

def keyL (l : List Val) : List UInt8 := l.flatMap fun v => keyV (clean v)
theorem keyL_app (a b : List Val) : keyL (a ++ b) = keyL a ++ keyL b := by simp [keyL]
theorem keyL_one (v : Val) : keyL [v] = keyV (clean v) := by simp [keyL]
theorem keyL_take (l : List Val) (n : Nat) : (keyL (l.take n)).length ≤ (keyL l).length := by
  have h := keyL_app (l.take n) (l.drop n)
  rw [List.take_append_drop] at h
  rw [h, List.length_append]; omega
set_option maxHeartbeats 2000000 in
theorem rkeys_c (A : List Val) (CA : List (List PV)) (hA : A.map Val.cells = CA) (ha : A.length ≤ 140737488355328) (hs : ∀ v, v ∈ A → v.s.size ≤ 1048577) (hK : (keyL A).length ≤ 100000000) : PCall Tryd.prog 8 [.sl CA] fun r => r = [.str (toB (keyL A))] := by
  have hAl : CA.length = A.length := by rw [← hA]; simp
  have hb : ∀ {n m : Int}, IntKind.u64.wrap ((BitVec.ofInt IntKind.u64.bits n ^^^ BitVec.ofInt IntKind.u64.bits 9223372036854775808).toNat : Int) = m → PCall Tryd.prog 20 [.int .u64 m, .int .i64 8] fun r => r = [.str (strOf (upB m (-1)))] := fun {n m} h => bytes_c m (by rw [← h]; simp [IntKind.wrap, IntKind.bits, IntKind.signed]; omega)
  refine PCall.x (nt := 61) (res := [.tmp 2]) mixed tt_ok [] Tryd.func8 rfl rfl rfl c8 (Nat.le_of_ble_eq_true rfl) ?_
  intro cp cc lp Q' hcp hcc hlp hQ
  repeat' (first
    | (with_reducible refine Nm.mk ?_; intro z hz)
    | (with_reducible refine IfB.mk ?_ ?_ <;> (intro h; cases h))
    | (with_reducible refine Two.l ?_; refine Asm.mk ?_ ?_; focus (decide +kernel))
    | (with_reducible refine Two.r ?_)
    | (with_reducible refine TwoT.r ?_)
    | (with_reducible refine Asm.mk ?_ ?_; focus (first | kernel_rfl | decide))
    | (with_reducible refine Asm.mk2 ?_ ?_)
    | ((fail_if_success (with_reducible first | refine hQ _ ?_ | refine Side.mk ?_ | refine isCP hcp ?_ | refine isCC hcc ?_ | refine isLP hlp ?_ | refine Ix.mk ?_ | refine SIx.mk ?_ | refine SEx.mk ?_ | refine EIx.mk ?_ | refine RIx.mk ?_ | show False | refine hR ?_ _ ?_ ?_ ?_ ?_ ?_ | refine hR2 ?_ _ ?_ ?_ ?_ ?_ ?_)); cbv))
  simp only [nc] at hz
  simp only [nc'] at hz
  have hzl := lenZ (n := A.length) hAl hz
  clear hz
  generalize z = zl at *
  refine loopT (ι := Int × ByteArray) mixed tt_ok hcp hcc hlp [7, 8] (fun p => [(3, .p (.str p.2)), (9, .p (.int .i64 p.1))]) (fun _ => []) (fun p => Rng A.length zl p.1 ∧ byts p.2 = keyL (A.take p.1.toNat)) (fun p => (zl - p.1).toNat) (0, ⟨#[]⟩) 0 (fun _ => rfl) ⟨Rng.start hzl (by omega), rfl⟩ ⟨rfl, rfl, trivial⟩ rfl ?_
  rintro R ⟨i, q⟩ ⟨rg, hq⟩ hR
  replace rg : Rng A.length zl i := rg
  replace hq : byts q = keyL (A.take i.toNat) := hq
  have hqs : q.size ≤ 100000000 := by rw [← byts_len, hq]; exact Nat.le_trans (keyL_take A _) hK
  have hfin : ∀ {k n : Int} {s : ByteArray} {q2 : ByteArray} {z A'}, A[i.toNat]? = some ⟨k, n, s⟩ → decide (i < zl) = true → byts q2 = byts q ++ keyV (clean ⟨k, n, s⟩) → IntKind.i64.wrap (i + 1) = z → subL A'.T [(3, .p (.str q2)), (9, .p (.int .i64 z))] → subP A'.T _ _ → takeX A'.H 0 = [] → R A' := fun {k n s q2 z A'} hx h h2 h3 h4 h5 h6 => by
    rw [rg.wrap h] at h3
    subst h3
    refine hR (i + 1, q2) A' ⟨rg.next h, ?_⟩ (rg.less h) h4 h5 h6
    show byts q2 = keyL (A.take (i + 1).toNat)
    rw [rg.take hx, keyL_app, h2, hq, keyL_one]
  have hsv : ∀ {k n : Int} {s : ByteArray} {v : Val}, A[i.toNat]? = some ⟨k, n, s⟩ → clean ⟨k, n, s⟩ = v → v.s.size ≤ 1048577 := by
    rintro k n s v hx rfl
    have hs := hs _ (List.mem_of_getElem? hx)
    simp only [clean]
    split
    · exact Nat.zero_le _
    · split
      · exact hs
      · exact Nat.zero_le _
  have hs1 : ∀ {b : UInt8}, ¬ maxI < ((q.size + (⟨#[b]⟩ : ByteArray).size : Nat) : Int) := by
    intro b; show ¬ (9223372036854775807 : Int) < ((q.size + 1 : Nat) : Int); omega
  have hs2 : ∀ {m : Int} {z : ByteArray}, strOf (upB m (-1)) = z → ¬ maxI < (((⟨#[2]⟩ : ByteArray).size + z.size : Nat) : Int) := by
    intro m z h; rw [← h, ← byts_len (strOf _), upB_str]; show ¬ (9223372036854775807 : Int) < ((1 + 8 : Nat) : Int); decide
  have hs3 : ∀ {m : Int} {z z' : ByteArray}, strOf (upB m (-1)) = z → ⟨#[2]⟩ ++ z = z' → ¬ maxI < ((q.size + z'.size : Nat) : Int) := by
    rintro m z z' rfl rfl; rw [← byts_len (_ ++ _), byts_app, upB_str]; show ¬ (9223372036854775807 : Int) < ((q.size + (1 + 8) : Nat) : Int); omega
  repeat' (first
    | (with_reducible refine Nm.mk ?_; intro z hz)
    | (with_reducible refine IfB.mk ?_ ?_ <;> (intro h; cases h))
    | (with_reducible refine Two.l ?_; refine Asm.mk ?_ ?_; focus (decide +kernel))
    | (with_reducible refine Two.r ?_)
    | (with_reducible refine TwoT.r ?_)
    | (with_reducible refine Asm.mk ?_ ?_; focus (first | exact hs1 | exact hs2 (by assumption) | exact hs3 (by assumption) (by assumption) | (show (_ : Bool) = true; kernel_rfl)))
    | (with_reducible refine isCP hcp ?_; first | (refine vP hcp (rclean_c _ _ _) ?_; intro v hv) | (refine sP hcp (hb (by assumption)) ?_; intro z hz))
    | (with_reducible refine isCC hcc ?_; first | (refine vA hcc (rclean_c _ _ _) rfl ?_; intro v hv) | (refine sA hcc (hb (by assumption)) rfl ?_; intro z hz))
    | (with_reducible refine Ix.rv hA rg.lo (rg.ltN (by assumption)) ?_; intro k n s hx0)
    | (with_reducible refine Asm.mk2 ?_ ?_)
    | ((fail_if_success (with_reducible first | refine hQ _ ?_ | refine Side.mk ?_ | refine isCP hcp ?_ | refine isCC hcc ?_ | refine isLP hlp ?_ | refine Ix.mk ?_ | refine SIx.mk ?_ | refine SEx.mk ?_ | refine EIx.mk ?_ | refine RIx.mk ?_ | show False | refine hR ?_ _ ?_ ?_ ?_ ?_ ?_ | refine hR2 ?_ _ ?_ ?_ ?_ ?_ ?_)); cbv))
  · rename_i z1 h1
    refine hfin hx0 (by assumption) ?_ hz ⟨rfl, rfl, trivial⟩ ⟨rfl, rfl, trivial⟩ rfl
    have h0 : v.k = 0 := by simpa using (show decide (v.k = 0) = true by assumption)
    rw [← h1, byts_app, hv, keyV, if_pos h0]; rfl
  · rename_i zu hu zx hx zb hb zc hc zd hd
    refine hfin hx0 (by assumption) ?_ hz ⟨rfl, rfl, trivial⟩ ⟨rfl, rfl, trivial⟩ rfl
    have h1 : v.k = 1 := by simpa using (show decide (v.k = 1) = true by assumption)
    rw [← hd, ← hc, ← hb, byts_app, byts_app, upB_str, hv, keyV, h1, if_neg (by decide), if_pos rfl, ← hx, ← hu]; rfl
  · have h0 : decide (i < zl) = true := by assumption
    have hq3 : byts z = byts q ++ [3] := by rw [← hz, byts_app]; rfl
    have hvs := hsv hx0 hv
    have hk2 : v.k = 2 := by simpa using (show decide (v.k = 2) = true by assumption)
    generalize z = q3 at *
    refine loopT (ι := Int × ByteArray) mixed tt_ok hcp hcc hlp [5, 7, 8, 9] (fun p => [(3, .p (.str p.2)), (6, .p (.int .i64 p.1))]) (fun _ => [.cells [.p (.int .i64 v.k), .p (.int .i64 v.n), .p (.str v.s)]]) (fun p => (0 ≤ p.1 ∧ p.1.toNat ≤ v.s.size) ∧ byts p.2 = byts q ++ 3 :: escL ((byts v.s).take p.1.toNat)) (fun p => v.s.size - p.1.toNat) (0, q3) 1 (fun _ => rfl) ⟨by simp, hq3⟩ ⟨rfl, rfl, trivial⟩ rfl ?_
    rintro R2 ⟨j, q4⟩ ⟨⟨hj0, hj1⟩, hq4⟩ hR2
    replace hj0 : 0 ≤ j := hj0
    replace hj1 : j.toNat ≤ v.s.size := hj1
    replace hq4 : byts q4 = byts q ++ 3 :: escL ((byts v.s).take j.toNat) := hq4
    have hje := at_cases hj0 hj1
    have hq4s : q4.size ≤ 100000000 + (1 + 2 * 1048577) := by
      rw [← byts_len, hq4, List.length_append, List.length_cons, byts_len]
      have := escL_len ((byts v.s).take j.toNat)
      have : ((byts v.s).take j.toNat).length ≤ v.s.size := by rw [List.length_take, byts_len]; omega
      omega
    have hxw : ∀ {zs z : Int}, (v.s.size : Int) = zs → decide (j < zs) = true → IntKind.i64.wrap (j + 1) = z → z = j + 1 ∧ (0 ≤ j ∧ j ≤ z ∧ z ≤ (v.s.size : Int)) := by
      intro zs z h1 h2 h3
      have := (hje zs h1).1 h2
      rw [wrap_in (by omega)] at h3
      omega
    have hx1 : ∀ {zs z : Int} {y : ByteArray}, (v.s.size : Int) = zs → decide (j < zs) = true → IntKind.i64.wrap (j + 1) = z → v.s.extract ((some j).getD 0).toNat ((some z).getD (v.s.size : Int)).toNat = y → ∃ b, v.s[j.toNat]? = some b ∧ byts y = [b] := by
      intro zs z y h1 h2 h3 h4
      have hl := (hje zs h1).1 h2
      obtain ⟨e, _⟩ := hxw h1 h2 h3
      obtain ⟨b, hb⟩ := byts_at hl
      refine ⟨b, hb, ?_⟩
      rw [← h4, e]
      show byts (v.s.extract j.toNat (j + 1).toNat) = [b]
      rw [show (j + 1).toNat = j.toNat + 1 by omega, byts_ext1 hb]
    have hb1 : ∀ {zs z : Int} {y : ByteArray}, (v.s.size : Int) = zs → decide (j < zs) = true → IntKind.i64.wrap (j + 1) = z → v.s.extract ((some j).getD 0).toNat ((some z).getD (v.s.size : Int)).toNat = y → ¬ maxI < ((q4.size + y.size : Nat) : Int) := by
      intro zs z y h1 h2 h3 h4
      obtain ⟨b, _, e⟩ := hx1 h1 h2 h3 h4
      have : y.size = 1 := by rw [← byts_len, e]; rfl
      show ¬ (9223372036854775807 : Int) < ((q4.size + y.size : Nat) : Int)
      omega
    have hb2 : ∀ {zs z : Int} {y x : ByteArray}, (v.s.size : Int) = zs → decide (j < zs) = true → IntKind.i64.wrap (j + 1) = z → v.s.extract ((some j).getD 0).toNat ((some z).getD (v.s.size : Int)).toNat = y → q4 ++ y = x → ¬ maxI < ((x.size + (⟨#[255]⟩ : ByteArray).size : Nat) : Int) := by
      intro zs z y x h1 h2 h3 h4 h5
      obtain ⟨b, _, e⟩ := hx1 h1 h2 h3 h4
      have : x.size = q4.size + 1 := by rw [← h5, ← byts_len, byts_app, List.length_append, e, byts_len]; rfl
      show ¬ (9223372036854775807 : Int) < ((x.size + 1 : Nat) : Int)
      omega
    have hb3 : ¬ maxI < ((q4.size + (⟨#[0, 1]⟩ : ByteArray).size : Nat) : Int) := by
      show ¬ (9223372036854775807 : Int) < ((q4.size + 2 : Nat) : Int)
      omega
    have hgo : ∀ {q5 : ByteArray} {zs z : Int} {b : UInt8} {A}, (v.s.size : Int) = zs → decide (j < zs) = true → v.s[j.toNat]? = some b → byts q5 = byts q4 ++ (if b = 0 then [0, 255] else [b]) → IntKind.i64.wrap (j + 1) = z → subL A.T [(3, .p (.str q5)), (6, .p (.int .i64 z))] → subP A.T _ _ → takeX A.H 1 = _ → R2 A := fun {q5 zs z b A} h1 h2 h3 h4 h5 h6 h7 h8 => by
      have hl := (hje zs h1).1 h2
      obtain ⟨e, _⟩ := hxw h1 h2 h5
      subst e
      refine hR2 (j + 1, q5) A ⟨⟨by show 0 ≤ j + 1; omega, by show (j + 1).toNat ≤ v.s.size; omega⟩, ?_⟩ (by show v.s.size - (j + 1).toNat < v.s.size - j.toNat; omega) h6 h7 h8
      show byts q5 = byts q ++ 3 :: escL ((byts v.s).take (j + 1).toNat)
      rw [show (j + 1).toNat = j.toNat + 1 by omega, escL_succ (byts_get.1 h3), h4, hq4]; simp
    repeat' (first
      | (with_reducible refine Nm.mk ?_; intro z hz)
      | (with_reducible refine IfB.mk ?_ ?_ <;> (intro h; cases h))
      | (with_reducible refine Two.l ?_; refine Asm.mk ?_ ?_; focus (decide +kernel))
      | (with_reducible refine Two.r ?_)
      | (with_reducible refine TwoT.r ?_)
      | (with_reducible refine Asm.mk ?_ ?_; focus (first | exact hb3 | exact hb1 (by assumption) (by assumption) (by assumption) (by assumption) | exact hb2 (by assumption) (by assumption) (by assumption) (by assumption) (by assumption) | (simp only [Option.getD_some]; exact (hxw (by assumption) (by assumption) (by assumption)).2) | (show (_ : Bool) = true; kernel_rfl)))
      | (with_reducible refine SIx.at_ hj0 ((hje _ (by assumption)).1 (by assumption)) ?_; intro b c hb hc)
      | (with_reducible refine Asm.mk2 ?_ ?_)
      | ((fail_if_success (with_reducible first | refine hQ _ ?_ | refine Side.mk ?_ | refine isCP hcp ?_ | refine isCC hcc ?_ | refine isLP hlp ?_ | refine Ix.mk ?_ | refine SIx.mk ?_ | refine SEx.mk ?_ | refine EIx.mk ?_ | refine RIx.mk ?_ | show False | refine hR ?_ _ ?_ ?_ ?_ ?_ ?_ | refine hR2 ?_ _ ?_ ?_ ?_ ?_ ?_)); cbv))
    · rename_i h1 h2 ze he y hy x hx hc0 w hw
      obtain ⟨b', hb', e⟩ := hx1 h1 h2 he hy
      rw [hb] at hb'
      cases hb'
      have hb0 : b = 0 := by
        have : c = 0 := by simpa using hc0
        exact UInt8.toNat_inj.1 (by rw [this] at hc; simpa using hc)
      refine hgo h1 h2 hb ?_ hz ⟨rfl, rfl, trivial⟩ ⟨rfl, rfl, rfl, rfl, trivial⟩ rfl
      rw [← hw, ← hx, byts_app, byts_app, e, if_pos hb0, hb0, List.append_assoc]; rfl
    · rename_i h1 h2 ze he y hy x hx hc0
      obtain ⟨b', hb', e⟩ := hx1 h1 h2 he hy
      rw [hb] at hb'
      cases hb'
      have hb0 : ¬ b = 0 := by
        have : ¬ c = 0 := by simpa using hc0
        rintro rfl
        exact this (by rw [← hc]; rfl)
      refine hgo h1 h2 hb ?_ hz ⟨rfl, rfl, trivial⟩ ⟨rfl, rfl, rfl, rfl, trivial⟩ rfl
      rw [← hx, byts_app, e, if_neg hb0]
    · rename_i h1 h2 y hy
      have hl := (hje _ h1).2 h2
      refine hfin hx0 h0 ?_ hz ⟨rfl, rfl, trivial⟩ ⟨rfl, rfl, trivial⟩ rfl
      rw [← hy, byts_app, hq4, hl, List.take_of_length_le (by rw [byts_len]; exact Nat.le_refl _), hv, keyV, hk2, if_neg (by decide), if_neg (by decide), if_pos rfl]; simp; rfl
  · refine hfin hx0 (by assumption) ?_ hz ⟨rfl, rfl, trivial⟩ ⟨rfl, rfl, trivial⟩ rfl
    have h0 : ¬ v.k = 0 := by simpa using (show decide (v.k = 0) = false by assumption)
    have h1 : ¬ v.k = 1 := by simpa using (show decide (v.k = 1) = false by assumption)
    have h2 : ¬ v.k = 2 := by simpa using (show decide (v.k = 2) = false by assumption)
    rw [hv, keyV, if_neg h0, if_neg h1, if_neg h2, List.append_nil]
  · refine hQ _ ?_
    rw [rg.take_ rfl hz] at hq
    rw [toB_of hq]
end Go.Proofs.YtnhmnfokbinplaaDoor

namespace Go.Proofs.YtnhmnfokbinplaaDoor
open Go Go.RowKit
set_option maxRecDepth 100000
set_option linter.unusedSimpArgs false
set_option linter.unusedVariables false

/-- A call by a contract that speaks of some of the caller's objects. -/
theorem frameT {P : Program} {cc : FuncId → List AV → List AObj → (AV → List AObj → Prop) → Prop} (hcc : ACall P = cc) {f : FuncId} {args0 args : List AV} {H0 H1 H : List AObj} {X : AV} {K : AV → List AObj → Prop} (s : List Nat)
    (h : ACall P f args0 H0 fun r H' => r = X ∧ takeX H' (lenX H1) = H1) (hs : onceX s = true) (hl : lenX H1 = lenX s) (hr : args = AV.renL s args0) (hH : optL (nth H) s = some (mapX (AObj.ren s) H0)) (hlt : (AV.ltL (lenX s) args0 && ltH (lenX s) H0 && (AV.ltB (lenX s) X && ltH (lenX s) H1)) = true)
    (k : K (AV.ren s X) (backX s s H1 H)) : cc f args H K := by
  subst hcc
  rw [lenX_eq s] at hl hlt
  rw [Bool.and_eq_true, Bool.and_eq_true (AV.ltB _ _)] at hlt
  refine h.frame s hs hr hH hlt.1 ?_
  rintro r H' ⟨rfl, hH'⟩
  rw [hl] at hH'
  rw [hH']
  exact ⟨hlt.2.1, by rw [← lenX_eq]; exact hl, hlt.2.2, k⟩

theorem put_c (n : Int) (hn : 0 ≤ n) (L0 : List (List PV)) (m0 : Nat) (hm0 : L0.length = m0) (hok0 : okEs 1 L0 = true) (hs : m0 ≤ 1000000000) (L2 : List (List PV)) (m2 : Nat) (hL2 : L0 ++ upB n (-1) = L2) (hm2 : L2.length = m2) :
    ACall Tryd.prog 17 [.tok 0 L0, .p (.int .u64 n), .p (.int .i64 8)] [.spare m0 1] fun r H' => r = .tok 0 L2 ∧ takeX H' 1 = [.spare m2 1] := by
  refine ACall.x (nt := 23) (res := [.tmp 6]) mixed tt_ok [] Tryd.func17 rfl rfl rfl c17 (Nat.le_of_ble_eq_true rfl) ?_
  intro cp cc lp Q' hcp hcc hlp hQ
  repeat' (first
    | (with_reducible refine Nm.mk ?_; intro z hz)
    | (with_reducible refine IfB.mk ?_ ?_ <;> (intro h; cases h))
    | (with_reducible refine Two.l ?_; refine Asm.mk ?_ ?_; focus (decide +kernel))
    | (with_reducible refine Two.r ?_)
    | (with_reducible refine TwoT.r ?_)
    | (with_reducible refine Asm.mk ?_ ?_; focus (show (_ : Bool) = true; kernel_rfl))
    | (with_reducible refine Asm.mk2 ?_ ?_)
    | ((fail_if_success (with_reducible first | refine hQ _ _ ?_ | refine Side.mk ?_ | refine isCP hcp ?_ | refine isCC hcc ?_ | refine isLP hlp ?_ | refine Ix.mk ?_ | refine SIx.mk ?_ | refine SEx.mk ?_ | refine EIx.mk ?_ | refine RIx.mk ?_ | show False | refine hR ?_ _ ?_ ?_ ?_ ?_ ?_ | refine hR2 ?_ _ ?_ ?_ ?_ ?_ ?_)); cbv))
  have hz7 : z = 7 := by rw [← hz]; decide
  clear hz
  subst hz7
  refine loopT (ι := Int × List (List PV) × Nat) mixed tt_ok hcp hcc hlp [1] (fun p => [(0, .tok 0 p.2.1), (7, .p (.int .i64 p.1))]) (fun p => [.spare p.2.2 1]) (fun p => -1 ≤ p.1 ∧ p.1 ≤ 7 ∧ p.2.1.length = p.2.2 ∧ L0 ++ upB n p.1 = p.2.1) (fun p => (p.1 + 1).toNat) (7, L0, m0) 1 (fun _ => rfl) ⟨by show (-1 : Int) ≤ 7; decide, by show (7 : Int) ≤ 7; decide, hm0, by simp [upB]⟩ ⟨rfl, rfl, trivial⟩ rfl ?_
  rintro R ⟨i, L, m⟩ ⟨hi0, hi1, hm, hL⟩ hR
  replace hi0 : -1 ≤ i := hi0
  replace hi1 : i ≤ 7 := hi1
  replace hm : L.length = m := hm
  replace hL : L0 ++ upB n i = L := hL
  have hok : okEs 1 L = true := by
    rw [← hL]
    refine List.all_eq_true.2 fun e he => ?_
    rcases List.mem_append.1 he with h | h
    · exact List.all_eq_true.1 hok0 e h
    · obtain ⟨c, _, rfl⟩ := List.mem_map.1 h; rfl
  have hll : L.length ≤ 1000000008 := by rw [← hL, List.length_append, upB_len]; omega
  have hng : ∀ w : Int, IntKind.i64.wrap (8 * i) = w → decide (0 ≤ i) = true → ¬ w < 0 := by
    intro w h h0
    simp only [decide_eq_true_eq] at h0
    rw [wrap_in (by omega)] at h
    omega
  repeat' (first
    | (with_reducible refine Nm.mk ?_; intro z hz)
    | (with_reducible refine IfB.mk ?_ ?_ <;> (intro h; cases h))
    | (with_reducible refine Two.l ?_; refine Asm.mk ?_ ?_; focus (decide +kernel))
    | (with_reducible refine Two.r ?_)
    | (with_reducible refine TwoT.r ?_)
    | (with_reducible refine Asm.mk ?_ ?_; focus (first | exact hng _ (by assumption) (by assumption) | (refine ⟨hm.symm, rfl, hok, rfl, ?_, ?_⟩ <;> (clear hR hQ hng; simp only [List.length_cons, List.length_nil, maxLen]; omega)) | (show (_ : Bool) = true; kernel_rfl)))
    | (with_reducible refine Asm.mk2 ?_ ?_)
    | ((fail_if_success (with_reducible first | refine hQ _ _ ?_ | refine Side.mk ?_ | refine isCP hcp ?_ | refine isCC hcc ?_ | refine isLP hlp ?_ | refine Ix.mk ?_ | refine SIx.mk ?_ | refine SEx.mk ?_ | refine EIx.mk ?_ | refine RIx.mk ?_ | show False | refine hR ?_ _ ?_ ?_ ?_ ?_ ?_ | refine hR2 ?_ _ ?_ ?_ ?_ ?_ ?_)); cbv))
  · rename_i z3 h3 z2 h2 z1 h1 L3 hL3 m3 hm3
    have h0 : decide (0 ≤ i) = true := by assumption
    simp only [decide_eq_true_eq] at h0
    have hb := byte_eq hn h0 hi1 h3 h2 h1
    rw [wrap_in (by omega)] at hz
    subst hz
    refine hR (i - 1, L3, m3) _ ⟨by show -1 ≤ i - 1; omega, by show i - 1 ≤ 7; omega, by show L3.length = m3; rw [← hL3, ← hm3, List.length_append], ?_⟩ (by show (i - 1 + 1).toNat < (i + 1).toNat; omega) ⟨rfl, rfl, trivial⟩ ⟨rfl, trivial⟩ rfl
    show L0 ++ upB n (i - 1) = L3
    rw [upB_succ h0 hi1, ← List.append_assoc, hL, ← hL3, hb]
  · have h0 : decide (0 ≤ i) = false := by assumption
    simp only [decide_eq_false_iff_not] at h0
    have hi : i = -1 := by omega
    subst hi
    have e : L = L2 := by rw [← hL, ← hL2]
    subst e
    refine hQ _ _ ⟨rfl, ?_⟩
    rw [← hm2, hm]; rfl
end Go.Proofs.YtnhmnfokbinplaaDoor

namespace Go.Proofs.YtnhmnfokbinplaaDoor
open Go Go.RowKit
set_option maxRecDepth 100000
set_option linter.unusedSimpArgs false
set_option linter.unusedVariables false

theorem okEs_bytes (l : List UInt8) : okEs 1 (l.map byteC) = true := List.all_eq_true.2 fun e he => by obtain ⟨c, _, rfl⟩ := List.mem_map.1 he; rfl
theorem isU8s_bytes (l : List UInt8) : isU8s (l.map byteC) = true := by
  simp [isU8s, byteC, byteOf]
theorem strOf_bytes (l : List UInt8) : strOf (l.map byteC) = toB l := by
  simp [strOf, toB, byteC, byteOf, Function.comp_def]
theorem upB_bytes (n : Int) : upB n (-1) = (bytesN n).map byteC := by
  rw [upB, bytesN, List.map_map]; rfl

theorem keyV_num (n : Int) : keyV (num n) = 2 :: bytesN (flipN n) := by
  show (if (1 : Int) = 0 then [1] else if (1 : Int) = 1 then 2 :: bytesN (flipN n) else _) = _
  rw [if_neg (by decide), if_pos rfl]
theorem keyV_str (t : ByteArray) : keyV (str t) = 3 :: (escL (byts t) ++ [0, 1]) := by
  show (if (2 : Int) = 0 then [1] else if (2 : Int) = 1 then _ else if (2 : Int) = 2 then 3 :: (escL (byts t) ++ [0, 1]) else _) = _
  rw [if_neg (by decide), if_neg (by decide), if_pos rfl]
/-- Bytes of one's own. -/
structure BLst (N : Nat) (L : List (List PV)) (m : Nat) : Prop where
  ok : okEs 1 L = true
  len : L.length = m
  le : m ≤ N
theorem okEs_app {k : Nat} {a b : List (List PV)} (ha : okEs k a = true) (hb : okEs k b = true) : okEs k (a ++ b) = true := by
  refine List.all_eq_true.2 fun e he => ?_
  rcases List.mem_append.1 he with h | h
  · exact List.all_eq_true.1 ha e h
  · exact List.all_eq_true.1 hb e h
theorem BLst.app {N k : Nat} {L xs L1 : List (List PV)} {m m1 : Nat} (h : BLst N L m) (e : L ++ xs = L1) (e2 : L.length + xs.length = m1) (ok : okEs 1 xs = true) (hk : xs.length ≤ k) : BLst (N + k) L1 m1 := by
  subst e e2
  have := h.len
  have := h.le
  exact ⟨okEs_app h.ok ok, List.length_append, by omega⟩
theorem BLst.side {N : Nat} {L xs : List (List PV)} {m : Nat} (h : BLst N L m) (hN : N ≤ 1000000000) (ok : okEs 1 xs = true) (hk : xs.length ≤ 1000000000) : m = L.length ∧ 1 = 1 ∧ okEs 1 L = true ∧ okEs 1 xs = true ∧ L.length + xs.length ≤ maxLen ∧ (L.length + xs.length) * 1 ≤ 140737488355328 := by
  have := h.len
  have := h.le
  refine ⟨h.len.symm, rfl, h.ok, ok, ?_, ?_⟩
  · show L.length + xs.length ≤ 9223372036854775807; omega
  · omega
theorem putA {cc : FuncId → List AV → List AObj → (AV → List AObj → Prop) → Prop} (hcc : ACall Tryd.prog = cc) {n : Int} {L : List (List PV)} {m : Nat} {H : List AObj} {K : AV → List AObj → Prop} {N : Nat} (hn : 0 ≤ n) (hB : BLst N L m) (hN : N ≤ 1000000000) (hH : nth H 0 = some (.spare m 1))
    (k : ∀ L2 m2, L ++ upB n (-1) = L2 → L2.length = m2 → K (.tok 0 L2) (backX [0] [0] [.spare m2 1] H)) : cc 17 [.tok 0 L, .p (.int .u64 n), .p (.int .i64 8)] H K := by
  refine frameT (H1 := [.spare (L ++ upB n (-1)).length 1]) hcc [0] (put_c n hn L m hB.len hB.ok (by have := hB.le; omega) _ _ rfl rfl) rfl rfl rfl ?_ rfl (k _ _ rfl rfl)
  simp only [optL, hH]; rfl

set_option maxHeartbeats 2000000 in
theorem ckey_c (A : List Val) (CA : List (List PV)) (hA : A.map Val.cells = CA) (ha : A.length ≤ 140737488355328) (hs : ∀ v, v ∈ A → v.s.size ≤ 1048577) (hK : (keyL A).length ≤ 100000000)
    (hrep : ∀ s : ByteArray, s.size ≤ 1048577 → PCall Tryd.prog 18 [.str s, .str ⟨#[0]⟩, .str ⟨#[0, 255]⟩] fun r => r = [.str (toB (escL (byts s)))]) : PCall Tryd.prog 7 [.sl CA] fun r => r = [.str (toB (keyL A))] := by
  have hAl : CA.length = A.length := by rw [← hA]; simp
  have hpos : ∀ {n m : Int}, IntKind.u64.wrap ((BitVec.ofInt IntKind.u64.bits n ^^^ BitVec.ofInt IntKind.u64.bits 9223372036854775808).toNat : Int) = m → 0 ≤ m := by
    intro n m h; rw [← h]; simp [IntKind.wrap, IntKind.bits, IntKind.signed]; omega
  refine PCall.x (nt := 43) (res := [.tmp 2]) mixed tt_ok [] Tryd.func7 rfl rfl rfl c7 (Nat.le_of_ble_eq_true rfl) ?_
  intro cp cc lp Q' hcp hcc hlp hQ
  repeat' (first
    | (with_reducible refine Nm.mk ?_; intro z hz)
    | (with_reducible refine IfB.mk ?_ ?_ <;> (intro h; cases h))
    | (with_reducible refine Two.l ?_; refine Asm.mk ?_ ?_; focus (decide +kernel))
    | (with_reducible refine Two.r ?_)
    | (with_reducible refine TwoT.r ?_)
    | (with_reducible refine Asm.mk ?_ ?_; focus (first | kernel_rfl | decide))
    | (with_reducible refine Asm.mk2 ?_ ?_)
    | ((fail_if_success (with_reducible first | refine hQ _ ?_ | refine Side.mk ?_ | refine isCP hcp ?_ | refine isCC hcc ?_ | refine isLP hlp ?_ | refine Ix.mk ?_ | refine SIx.mk ?_ | refine SEx.mk ?_ | refine EIx.mk ?_ | refine RIx.mk ?_ | show False | refine hR ?_ _ ?_ ?_ ?_ ?_ ?_ | refine hR2 ?_ _ ?_ ?_ ?_ ?_ ?_)); cbv))
  simp only [nc] at hz
  simp only [nc'] at hz
  have hzl := lenZ (n := A.length) hAl hz
  clear hz
  generalize z = zl at *
  refine mintT hlp 1 3 rfl ?_
  refine loopT (ι := Int × List (List PV) × Nat) mixed tt_ok hcp hcc hlp [6, 7] (fun p => [(3, .tok 0 p.2.1), (8, .p (.int .i64 p.1))]) (fun p => [.spare p.2.2 1]) (fun p => Rng A.length zl p.1 ∧ p.2.1 = (keyL (A.take p.1.toNat)).map byteC ∧ p.2.1.length = p.2.2) (fun p => (zl - p.1).toNat) (0, [], 0) 1 (fun _ => rfl) ⟨Rng.start hzl (by omega), rfl, rfl⟩ ⟨rfl, rfl, trivial⟩ rfl ?_
  rintro R ⟨i, L, m⟩ ⟨rg, hL, hm⟩ hR
  replace rg : Rng A.length zl i := rg
  replace hL : L = (keyL (A.take i.toNat)).map byteC := hL
  replace hm : L.length = m := hm
  have hB : BLst 100000000 L m := ⟨by rw [hL]; exact okEs_bytes _, hm, by rw [← hm, hL, List.length_map]; exact Nat.le_trans (keyL_take A _) hK⟩
  have hfin : ∀ {k n : Int} {s : ByteArray} {L2 : List (List PV)} {m2 : Nat} {z A'}, A[i.toNat]? = some ⟨k, n, s⟩ → decide (i < zl) = true → L2 = L ++ (keyV (clean ⟨k, n, s⟩)).map byteC → L2.length = m2 → IntKind.i64.wrap (i + 1) = z → subL A'.T [(3, .tok 0 L2), (8, .p (.int .i64 z))] → subP A'.T _ _ → takeX A'.H 1 = [.spare m2 1] → R A' := fun {k n s L2 m2 z A'} hx h h2 h3 h4 h5 h6 h7 => by
    rw [rg.wrap h] at h4
    subst h4
    refine hR (i + 1, L2, m2) A' ⟨rg.next h, ?_, h3⟩ (rg.less h) h5 h6 h7
    show L2 = (keyL (A.take (i + 1).toNat)).map byteC
    rw [rg.take hx, keyL_app, keyL_one, List.map_append, h2, hL]
  have hsv : ∀ {k n : Int} {s : ByteArray}, A[i.toNat]? = some ⟨k, n, s⟩ → s.size ≤ 1048577 := fun hx => hs _ (List.mem_of_getElem? hx)
  have hrl : ∀ {s r : ByteArray} {xs : List (List PV)}, s.size ≤ 1048577 → toB (escL (byts s)) = r → List.map (fun c : UInt8 => [PV.int .u8 (c.toNat : Int)]) r.data.toList = xs → okEs 1 xs = true ∧ xs.length ≤ 2097154 := by
    rintro s r xs h rfl rfl
    refine ⟨okEs_bytes _, ?_⟩
    rw [List.length_map]
    have := escL_len (byts s)
    rw [byts_len] at this
    show (escL (byts s)).length ≤ _
    omega
  have hu : isU8s L = true := by rw [hL]; exact isU8s_bytes _
  repeat' (first
    | (with_reducible refine TwoT.l ?_; refine Asm.mk ?_ ?_; focus (decide +kernel))
    | (with_reducible refine Nm.mk ?_; intro z hz)
    | (with_reducible refine IfB.mk ?_ ?_ <;> (intro h; cases h))
    | (with_reducible refine Two.l ?_; refine Asm.mk ?_ ?_; focus (decide +kernel))
    | (with_reducible refine Two.r ?_)
    | (with_reducible refine TwoT.r ?_)
    | (with_reducible refine Asm.mk ?_ ?_; focus (first | exact hB.side (by decide) rfl (by decide) | exact (hB.app (k := 1) (by assumption) (by assumption) rfl (by decide)).side (by decide) (hrl (hsv hx0) (by assumption) (by assumption)).1 (Nat.le_trans (hrl (hsv hx0) (by assumption) (by assumption)).2 (by decide)) | exact ((hB.app (k := 1) (by assumption) (by assumption) rfl (by decide)).app (k := 2097154) (by assumption) (by assumption) (hrl (hsv hx0) (by assumption) (by assumption)).1 (hrl (hsv hx0) (by assumption) (by assumption)).2).side (by decide) rfl (by decide) | exact hu | (show (_ : Bool) = true; kernel_rfl)))
    | (with_reducible refine isCP hcp ?_; first | (refine sP hcp (hrep _ (hsv hx0)) ?_; intro z hz))
    | (with_reducible refine isCC hcc ?_; first | (refine sA hcc (hrep _ (hsv hx0)) rfl ?_; intro z hz))
    | (with_reducible refine Ix.rv hA rg.lo (rg.ltN (by assumption)) ?_; intro k n s hx0)
    | (with_reducible refine isCC hcc ?_; refine putA hcc (hpos (by assumption)) (hB.app (k := 1) (by assumption) (by assumption) rfl (by decide)) (by decide) rfl ?_; intro Lp mp hLp hmp)
    | (with_reducible refine Asm.mk2 ?_ ?_)
    | ((fail_if_success (with_reducible first | refine hQ _ ?_ | refine Side.mk ?_ | refine isCP hcp ?_ | refine isCC hcc ?_ | refine isLP hlp ?_ | refine Ix.mk ?_ | refine SIx.mk ?_ | refine SEx.mk ?_ | refine EIx.mk ?_ | refine RIx.mk ?_ | show False | refine hR ?_ _ ?_ ?_ ?_ ?_ ?_ | refine hR2 ?_ _ ?_ ?_ ?_ ?_ ?_)); cbv))
  · rename_i hk1 L1 h1 m1 hm1 zu hzu zx hzx
    have h1' : k = 1 := of_decide_eq_true hk1
    refine hfin hx0 (by assumption) ?_ hmp hz ⟨rfl, rfl, trivial⟩ ⟨rfl, rfl, trivial⟩ rfl
    have e : clean ⟨k, n, s⟩ = num n := by rw [clean, if_pos h1']; rfl
    rw [← hLp, ← h1, e, keyV_num, upB_bytes, List.append_assoc, ← hzx, ← hzu]
    rfl
  · rename_i hk1 hk2 L1 h1 m1 hm1 r hr xs hxs L3 h3 m3 hm3 L4 h4 m4 hm4
    have h1' : ¬ k = 1 := of_decide_eq_false hk1
    have h2' : k = 2 := of_decide_eq_true hk2
    refine hfin hx0 (by assumption) ?_ (by rw [← h4, ← hm4, List.length_append]) hz ⟨rfl, rfl, trivial⟩ ⟨rfl, rfl, trivial⟩ rfl
    have e : clean ⟨k, n, s⟩ = str s := by rw [clean, if_neg h1', if_pos h2']; rfl
    rw [← h4, ← h3, ← h1, e, keyV_str, ← hxs, ← hr, List.append_assoc, List.append_assoc, List.map_cons, List.map_append]
    rfl
  · rename_i hk1 hk2 L1 h1 m1 hm1
    have h1' : ¬ k = 1 := of_decide_eq_false hk1
    have h2' : ¬ k = 2 := of_decide_eq_false hk2
    refine hfin hx0 (by assumption) ?_ (by rw [← h1, ← hm1, List.length_append]) hz ⟨rfl, rfl, trivial⟩ ⟨rfl, rfl, trivial⟩ rfl
    have e : clean ⟨k, n, s⟩ = Val.zero := by rw [clean, if_neg h1', if_neg h2']
    rw [← h1, e]
    rfl
  · refine hQ _ ?_
    rw [rg.take_ rfl (by assumption)] at hL
    rw [← hz, hL, strOf_bytes]
end Go.Proofs.YtnhmnfokbinplaaDoor
