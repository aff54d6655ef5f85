/- cell: Order, Test, Cat, True, with what they call. Own work; no condition. -/
import Derived.Test.YtnhmnfokbinplaaCell1
import Derived.Test.YtnhmnfokbinplaaFit
import Derived.Test.YtnhmnfokbinplaaAbsX
import Derived.Test.YtnhmnfokbinplaaAbs25
namespace Go.Proofs.Ytnhmnfokbinplaa
open Go Go.RowKit
set_option maxRecDepth 100000
set_option linter.unusedSimpArgs false
set_option linter.unusedVariables false

def cmpS (a b : ByteArray) : Int := Lib.compareBytes a.data.toList b.data.toList
theorem cmpstr_c (a b : ByteArray) : PCall Try.prog 188 [.str a, .str b] fun r => r = [.int .i64 (cmpS a b)] :=
  PCall.ext (fn := Try.f188) (e := Extern.BytealgCompare.compare) (by kernel_rfl) Try.func188 (by kernel_rfl) rfl (by kernel_rfl) (by kernel_rfl) fun m w vals hv => by
    obtain ⟨u, v, rfl, h1, h2⟩ := args2 hv
    cases h1; cases h2
    exact ⟨_, Lib.run_compareString a b w, .p (.int _ _)⟩
theorem compareString_c (a b : ByteArray) : PCall Try.prog 155 [.str a, .str b] fun r => r = [.int .i64 (cmpS a b)] := by
  refine PCall.x (nt := 8) (res := [.tmp 4]) mixed tt_ok [] Try.func155 rfl rfl rfl c155 (Nat.le_of_ble_eq_true rfl) ?_
  intro cp cc lp Q' hcp hcc hlp hQ
  repeat' (first
    | (with_reducible refine Nm.mk ?_; intro z hz)
    | (with_reducible refine IfB.mk ?_ ?_ <;> (intro h; cases h))
    | (with_reducible refine Asm.mk ?_ ?_; focus (first | kernel_rfl | decide))
    | (with_reducible refine isCP hcp ?_; first | (refine iP hcp (cmpstr_c a b) ?_; intro z hz))
    | (with_reducible refine isCC hcc ?_; first | (refine iA hcc (cmpstr_c a b) rfl ?_; intro z hz))
    | (with_reducible refine Asm.mk2 ?_ ?_)
    | ((fail_if_success (with_reducible refine hQ _ ?_)); (fail_if_success (with_reducible refine Side.mk ?_)); (fail_if_success (with_reducible refine isCP hcp ?_)); (fail_if_success (with_reducible refine isCC hcc ?_)); (fail_if_success (with_reducible refine isLP hlp ?_)); (fail_if_success (with_reducible refine Ix.mk ?_)); (fail_if_success (with_reducible refine SIx.mk ?_)); (fail_if_success (with_reducible refine SEx.mk ?_)); (fail_if_success (with_reducible refine EIx.mk ?_)); (fail_if_success (with_reducible show False)); (fail_if_success (with_reducible refine hR ?_ _ ?_ ?_ ?_ ?_ ?_)); (fail_if_success (with_reducible refine hR2 ?_ _ ?_ ?_ ?_ ?_ ?_)); cbv))
  all_goals (refine hQ _ ?_; clear hQ hcp hcc hlp; subst_vars; simp_all [])
theorem strCompare_c (a b : ByteArray) : PCall Try.prog 100 [.str a, .str b] fun r => r = [.int .i64 (cmpS a b)] := by
  refine PCall.x (nt := 8) (res := [.tmp 4]) mixed tt_ok [] Try.func100 rfl rfl rfl c100 (Nat.le_of_ble_eq_true rfl) ?_
  intro cp cc lp Q' hcp hcc hlp hQ
  repeat' (first
    | (with_reducible refine Nm.mk ?_; intro z hz)
    | (with_reducible refine IfB.mk ?_ ?_ <;> (intro h; cases h))
    | (with_reducible refine Asm.mk ?_ ?_; focus (first | kernel_rfl | decide))
    | (with_reducible refine isCP hcp ?_; first | (refine iP hcp (compareString_c a b) ?_; intro z hz))
    | (with_reducible refine isCC hcc ?_; first | (refine iA hcc (compareString_c a b) rfl ?_; intro z hz))
    | (with_reducible refine Asm.mk2 ?_ ?_)
    | ((fail_if_success (with_reducible refine hQ _ ?_)); (fail_if_success (with_reducible refine Side.mk ?_)); (fail_if_success (with_reducible refine isCP hcp ?_)); (fail_if_success (with_reducible refine isCC hcc ?_)); (fail_if_success (with_reducible refine isLP hlp ?_)); (fail_if_success (with_reducible refine Ix.mk ?_)); (fail_if_success (with_reducible refine SIx.mk ?_)); (fail_if_success (with_reducible refine SEx.mk ?_)); (fail_if_success (with_reducible refine EIx.mk ?_)); (fail_if_success (with_reducible show False)); (fail_if_success (with_reducible refine hR ?_ _ ?_ ?_ ?_ ?_ ?_)); (fail_if_success (with_reducible refine hR2 ?_ _ ?_ ?_ ?_ ?_ ?_)); cbv))
  all_goals (refine hQ _ ?_; clear hQ hcp hcc hlp; subst_vars; simp_all [])
def cmpI (a b : Int) : Int := if a < b then -1 else if b < a then 1 else 0
theorem isNaN1 (a : Int) : PCall Try.prog 153 [.int .i64 a] fun r => r = [.bool false] := by
  refine PCall.x (nt := 6) (res := [.tmp 2]) mixed tt_ok [] Try.func153 rfl rfl rfl c153 (Nat.le_of_ble_eq_true rfl) ?_
  intro cp cc lp Q' hcp hcc hlp hQ
  repeat' (first
    | (with_reducible refine Nm.mk ?_; intro z hz)
    | (with_reducible refine IfB.mk ?_ ?_ <;> (intro h; cases h))
    | (with_reducible refine Asm.mk ?_ ?_; focus (first | kernel_rfl | decide))
    | (with_reducible refine Asm.mk2 ?_ ?_)
    | ((fail_if_success (with_reducible refine hQ _ ?_)); (fail_if_success (with_reducible refine Side.mk ?_)); (fail_if_success (with_reducible refine isCP hcp ?_)); (fail_if_success (with_reducible refine isCC hcc ?_)); (fail_if_success (with_reducible refine isLP hlp ?_)); (fail_if_success (with_reducible refine Ix.mk ?_)); (fail_if_success (with_reducible refine SIx.mk ?_)); (fail_if_success (with_reducible refine SEx.mk ?_)); (fail_if_success (with_reducible refine EIx.mk ?_)); (fail_if_success (with_reducible show False)); (fail_if_success (with_reducible refine hR ?_ _ ?_ ?_ ?_ ?_ ?_)); (fail_if_success (with_reducible refine hR2 ?_ _ ?_ ?_ ?_ ?_ ?_)); cbv))
  all_goals (refine hQ _ ?_; clear hQ hcp hcc hlp; subst_vars; simp_all [])
theorem isNaN2 (a : Int) : PCall Try.prog 154 [.int .i64 a] fun r => r = [.bool false] := by
  refine PCall.x (nt := 6) (res := [.tmp 2]) mixed tt_ok [] Try.func154 rfl rfl rfl c154 (Nat.le_of_ble_eq_true rfl) ?_
  intro cp cc lp Q' hcp hcc hlp hQ
  repeat' (first
    | (with_reducible refine Nm.mk ?_; intro z hz)
    | (with_reducible refine IfB.mk ?_ ?_ <;> (intro h; cases h))
    | (with_reducible refine Asm.mk ?_ ?_; focus (first | kernel_rfl | decide))
    | (with_reducible refine Asm.mk2 ?_ ?_)
    | ((fail_if_success (with_reducible refine hQ _ ?_)); (fail_if_success (with_reducible refine Side.mk ?_)); (fail_if_success (with_reducible refine isCP hcp ?_)); (fail_if_success (with_reducible refine isCC hcc ?_)); (fail_if_success (with_reducible refine isLP hlp ?_)); (fail_if_success (with_reducible refine Ix.mk ?_)); (fail_if_success (with_reducible refine SIx.mk ?_)); (fail_if_success (with_reducible refine SEx.mk ?_)); (fail_if_success (with_reducible refine EIx.mk ?_)); (fail_if_success (with_reducible show False)); (fail_if_success (with_reducible refine hR ?_ _ ?_ ?_ ?_ ?_ ?_)); (fail_if_success (with_reducible refine hR2 ?_ _ ?_ ?_ ?_ ?_ ?_)); cbv))
  all_goals (refine hQ _ ?_; clear hQ hcp hcc hlp; subst_vars; simp_all [])
theorem compare1_c (a b : Int) : PCall Try.prog 98 [.int .i64 a, .int .i64 b] fun r => r = [.int .i64 (cmpI a b)] := by
  refine PCall.x (nt := 20) (res := [.tmp 4]) mixed tt_ok [] Try.func98 rfl rfl rfl c98 (Nat.le_of_ble_eq_true rfl) ?_
  intro cp cc lp Q' hcp hcc hlp hQ
  repeat' (first
    | (with_reducible refine Nm.mk ?_; intro z hz)
    | (with_reducible refine IfB.mk ?_ ?_ <;> (intro h; cases h))
    | (with_reducible refine Asm.mk ?_ ?_; focus (first | kernel_rfl | decide))
    | (with_reducible refine isCP hcp ?_; first | (refine bP hcp (isNaN1 a) ?_; intro z hz) | (refine bP hcp (isNaN1 b) ?_; intro z hz))
    | (with_reducible refine isCC hcc ?_; first | (refine bA hcc (isNaN1 a) rfl ?_; intro z hz) | (refine bA hcc (isNaN1 b) rfl ?_; intro z hz))
    | (with_reducible refine Asm.mk2 ?_ ?_)
    | ((fail_if_success (with_reducible refine hQ _ ?_)); (fail_if_success (with_reducible refine Side.mk ?_)); (fail_if_success (with_reducible refine isCP hcp ?_)); (fail_if_success (with_reducible refine isCC hcc ?_)); (fail_if_success (with_reducible refine isLP hlp ?_)); (fail_if_success (with_reducible refine Ix.mk ?_)); (fail_if_success (with_reducible refine SIx.mk ?_)); (fail_if_success (with_reducible refine SEx.mk ?_)); (fail_if_success (with_reducible refine EIx.mk ?_)); (fail_if_success (with_reducible show False)); (fail_if_success (with_reducible refine hR ?_ _ ?_ ?_ ?_ ?_ ?_)); (fail_if_success (with_reducible refine hR2 ?_ _ ?_ ?_ ?_ ?_ ?_)); cbv))
  all_goals (refine hQ _ ?_; clear hQ hcp hcc hlp; subst_vars; simp_all [cmpI]; try omega)
theorem compare2_c (a b : Int) : PCall Try.prog 99 [.int .i64 a, .int .i64 b] fun r => r = [.int .i64 (cmpI a b)] := by
  refine PCall.x (nt := 20) (res := [.tmp 4]) mixed tt_ok [] Try.func99 rfl rfl rfl c99 (Nat.le_of_ble_eq_true rfl) ?_
  intro cp cc lp Q' hcp hcc hlp hQ
  repeat' (first
    | (with_reducible refine Nm.mk ?_; intro z hz)
    | (with_reducible refine IfB.mk ?_ ?_ <;> (intro h; cases h))
    | (with_reducible refine Asm.mk ?_ ?_; focus (first | kernel_rfl | decide))
    | (with_reducible refine isCP hcp ?_; first | (refine bP hcp (isNaN2 a) ?_; intro z hz) | (refine bP hcp (isNaN2 b) ?_; intro z hz))
    | (with_reducible refine isCC hcc ?_; first | (refine bA hcc (isNaN2 a) rfl ?_; intro z hz) | (refine bA hcc (isNaN2 b) rfl ?_; intro z hz))
    | (with_reducible refine Asm.mk2 ?_ ?_)
    | ((fail_if_success (with_reducible refine hQ _ ?_)); (fail_if_success (with_reducible refine Side.mk ?_)); (fail_if_success (with_reducible refine isCP hcp ?_)); (fail_if_success (with_reducible refine isCC hcc ?_)); (fail_if_success (with_reducible refine isLP hlp ?_)); (fail_if_success (with_reducible refine Ix.mk ?_)); (fail_if_success (with_reducible refine SIx.mk ?_)); (fail_if_success (with_reducible refine SEx.mk ?_)); (fail_if_success (with_reducible refine EIx.mk ?_)); (fail_if_success (with_reducible show False)); (fail_if_success (with_reducible refine hR ?_ _ ?_ ?_ ?_ ?_ ?_)); (fail_if_success (with_reducible refine hR2 ?_ _ ?_ ?_ ?_ ?_ ?_)); cbv))
  all_goals (refine hQ _ ?_; clear hQ hcp hcc hlp; subst_vars; simp_all [cmpI]; try omega)

def orI : List Int → Int
  | [] => 0
  | x :: r => if x = 0 then orI r else x
theorem or_c (l : List Int) (L : List (List PV)) (hL : l.map i64c = L) (hs : l.length ≤ 1000) : PCall Try.prog 97 [.sl L] fun r => r = [.int .i64 (orI l)] := by
  have hLl : L.length = l.length := by rw [← hL]; simp
  refine PCall.x (nt := 18) (res := [.tmp 2]) mixed tt_ok [] Try.func97 rfl rfl rfl c97 (Nat.le_of_ble_eq_true rfl) ?_
  intro cp cc lp Q' hcp hcc hlp hQ
  repeat' (first
    | (with_reducible refine Nm.mk ?_; intro z hz)
    | (with_reducible refine IfB.mk ?_ ?_ <;> (intro h; cases h))
    | (with_reducible refine Asm.mk ?_ ?_; focus (first | kernel_rfl | decide))
    | (with_reducible refine Asm.mk2 ?_ ?_)
    | ((fail_if_success (with_reducible refine hQ _ ?_)); (fail_if_success (with_reducible refine Side.mk ?_)); (fail_if_success (with_reducible refine isCP hcp ?_)); (fail_if_success (with_reducible refine isCC hcc ?_)); (fail_if_success (with_reducible refine isLP hlp ?_)); (fail_if_success (with_reducible refine Ix.mk ?_)); (fail_if_success (with_reducible refine SIx.mk ?_)); (fail_if_success (with_reducible refine SEx.mk ?_)); (fail_if_success (with_reducible refine EIx.mk ?_)); (fail_if_success (with_reducible show False)); (fail_if_success (with_reducible refine hR ?_ _ ?_ ?_ ?_ ?_ ?_)); (fail_if_success (with_reducible refine hR2 ?_ _ ?_ ?_ ?_ ?_ ?_)); cbv))
  simp only [nc] at hz
  simp only [nc'] at hz
  refine loopK (ι := Int) mixed tt_ok hcp hcc hlp [3, 6, 7] (fun i => [(8, .p (.int .i64 i))]) (fun i => (0 ≤ i ∧ i ≤ z) ∧ orI (l.drop i.toNat) = orI l) (fun i => (z - i).toNat) 0 (fun _ => rfl) ⟨by omega, rfl⟩ ⟨rfl, trivial⟩ ?_
  intro R i hi hR
  have hi0 : 0 ≤ i := hi.1.1
  have hi1 : i ≤ z := hi.1.2
  have hd := hi.2
  have hk : decide (i < z) = true → i < l.length := by simp only [decide_eq_true_eq]; omega
  have hge : decide (i < z) = false → l.drop i.toNat = [] := by intro h; simp only [decide_eq_false_iff_not] at h; exact List.drop_eq_nil_of_le (by omega)
  have hst : decide (i < z) = true → IntKind.i64.wrap (i + 1) = i + 1 ∧ (0 ≤ i + 1 ∧ i + 1 ≤ z) ∧ (z - (i + 1)).toNat < (z - i).toNat := by
    intro h
    simp only [decide_eq_true_eq] at h
    exact ⟨wrap_in (by omega), by omega, by omega⟩
  have hdr : ∀ x, l[i.toNat]? = some x → l.drop i.toNat = x :: l.drop (i + 1).toNat := by
    intro x hx
    have hlt := (List.getElem?_eq_some_iff.1 hx).1
    rw [List.drop_eq_getElem_cons hlt, show (i + 1).toNat = i.toNat + 1 by omega]
    congr 1
    exact (List.getElem?_eq_some_iff.1 hx).2
  repeat' (first
    | (with_reducible refine Nm.mk ?_; intro z hz)
    | (with_reducible refine IfB.mk ?_ ?_ <;> (intro h; cases h))
    | (with_reducible refine Asm.mk ?_ ?_; focus kernel_rfl)
    | (with_reducible refine Ix.map hL i64c_len (by decide) hi0 (hk (by assumption)) ?_; intro x hx)
    | (with_reducible refine Asm.mk2 ?_ ?_)
    | ((fail_if_success (with_reducible refine hQ _ ?_)); (fail_if_success (with_reducible refine Side.mk ?_)); (fail_if_success (with_reducible refine isCP hcp ?_)); (fail_if_success (with_reducible refine isCC hcc ?_)); (fail_if_success (with_reducible refine isLP hlp ?_)); (fail_if_success (with_reducible refine Ix.mk ?_)); (fail_if_success (with_reducible refine SIx.mk ?_)); (fail_if_success (with_reducible refine SEx.mk ?_)); (fail_if_success (with_reducible refine EIx.mk ?_)); (fail_if_success (with_reducible show False)); (fail_if_success (with_reducible refine hR ?_ _ ?_ ?_ ?_ ?_ ?_)); (fail_if_success (with_reducible refine hR2 ?_ _ ?_ ?_ ?_ ?_ ?_)); cbv))
  · refine hQ _ ?_
    rw [← hd, hdr x hx]
    have : ¬ x = 0 := by clear hQ hR hcp hcc hlp; simp_all
    simp [orI, this]
  · obtain ⟨e1, e2, e3⟩ := hst (by assumption)
    rw [e1] at hz
    refine hR (i + 1) _ ⟨e2, ?_⟩ e3 ⟨hz ▸ rfl, trivial⟩ ⟨rfl, rfl, rfl, trivial⟩ rfl
    rw [hdr x hx] at hd
    have : x = 0 := by clear hQ hR hcp hcc hlp; simp_all
    rw [← hd]; simp [orI, this]
  · refine hQ _ ?_
    rw [← hd, hge (by assumption)]; rfl

theorem or3_c (a b c : Int) : PCall Try.prog 97 [.sl [[.int .i64 a], [.int .i64 b], [.int .i64 c]]] fun r => r = [.int .i64 (orI [a, b, c])] := or_c [a, b, c] _ rfl (by simp)
def orderV (a b : Val) : Int := orI [cmpI (clean a).k (clean b).k, cmpI (clean a).n (clean b).n, cmpS (clean a).s (clean b).s]
theorem order_c (k n : Int) (s : ByteArray) (k' n' : Int) (s' : ByteArray) : PCall Try.prog 50 [.agg [.int .i64 k, .int .i64 n, .str s], .agg [.int .i64 k', .int .i64 n', .str s']] fun r => r = [.int .i64 (orderV ⟨k, n, s⟩ ⟨k', n', s'⟩)] := by
  refine PCall.x (nt := 26) (res := [.tmp 4]) mixed tt_ok [] Try.func50 rfl rfl rfl c50 (Nat.le_of_ble_eq_true rfl) ?_
  intro cp cc lp Q' hcp hcc hlp hQ
  repeat' (first
    | (with_reducible refine Nm.mk ?_; intro z hz)
    | (with_reducible refine IfB.mk ?_ ?_ <;> (intro h; cases h))
    | (with_reducible refine Asm.mk ?_ ?_; focus (first | kernel_rfl | decide))
    | (with_reducible refine isCP hcp ?_; first | (refine vP hcp (clean_c k n s) ?_; intro v hv) | (refine vP hcp (clean_c k' n' s') ?_; intro v hv) | (refine iP hcp (compare1_c _ _) ?_; intro z hz) | (refine iP hcp (compare2_c _ _) ?_; intro z hz) | (refine iP hcp (strCompare_c _ _) ?_; intro z hz) | (refine iP hcp (or3_c _ _ _) ?_; intro z hz))
    | (with_reducible refine isCC hcc ?_; first | (refine vA hcc (clean_c k n s) rfl ?_; intro v hv) | (refine vA hcc (clean_c k' n' s') rfl ?_; intro v hv) | (refine iA hcc (compare1_c _ _) rfl ?_; intro z hz) | (refine iA hcc (compare2_c _ _) rfl ?_; intro z hz) | (refine iA hcc (strCompare_c _ _) rfl ?_; intro z hz) | (refine iA hcc (or3_c _ _ _) rfl ?_; intro z hz))
    | (with_reducible refine Asm.mk2 ?_ ?_)
    | ((fail_if_success (with_reducible refine hQ _ ?_)); (fail_if_success (with_reducible refine Side.mk ?_)); (fail_if_success (with_reducible refine isCP hcp ?_)); (fail_if_success (with_reducible refine isCC hcc ?_)); (fail_if_success (with_reducible refine isLP hlp ?_)); (fail_if_success (with_reducible refine Ix.mk ?_)); (fail_if_success (with_reducible refine SIx.mk ?_)); (fail_if_success (with_reducible refine SEx.mk ?_)); (fail_if_success (with_reducible refine EIx.mk ?_)); (fail_if_success (with_reducible show False)); (fail_if_success (with_reducible refine hR ?_ _ ?_ ?_ ?_ ?_ ?_)); (fail_if_success (with_reducible refine hR2 ?_ _ ?_ ?_ ?_ ?_ ?_)); cbv))
  all_goals (refine hQ _ ?_; clear hQ hcp hcc hlp; subst_vars; simp [orderV])
end Go.Proofs.Ytnhmnfokbinplaa
