/- cell: Order, Test, Cat, True, with what they call; tallyref's Order; the order asked the other way round; The program's bits: a number's bits laid behind others; How many bits a number wants: math/bits; The bit writer at a call; the bits of many numbers; cell: Test, Cat, True. Own work; no condition. -/
import Derived.Test.YtcajncmjlmpkgaaPcCell1
import Derived.Test.YtcajncmjlmpkgaaPc42
import Derived.Test.YtcajncmjlmpkgaaPcAbsX
import Derived.Test.YtcajncmjlmpkgaaPcAbs25
import Derived.Test.YtcajncmjlmpkgaaPcAbsP
namespace Go.Proofs.Ytcajncmjlmpkgaa
open Go Go.RowKit
set_option maxRecDepth 100000
set_option linter.unusedSimpArgs false
set_option linter.unusedVariables false
def cmpS (a b : ByteArray) : Int := Lib.compareBytes a.data.toList b.data.toList
theorem cmpstr_c (a b : ByteArray) : PCall Try.prog 121 [.str a, .str b] fun r => r = [.int .i64 (cmpS a b)] :=
 PCall.ext (fn := Try.f121) (e := Extern.BytealgCompare.compare) (by kernel_rfl) Try.func121 (by kernel_rfl) rfl (by kernel_rfl) (by kernel_rfl) fun m w vals hv => by
   obtain ⟨u, v, rfl, h1, h2⟩ := args2 hv
   cases h1; cases h2
   exact ⟨_, Lib.run_compareString a b w, .p (.int _ _)⟩
theorem compareString_c (a b : ByteArray) : PCall Try.prog 101 [.str a, .str b] fun r => r = [.int .i64 (cmpS a b)] := by
 refine PCall.x (nt := ⟨8, []⟩) (res := [.tmp 4]) mixed tt_ok [] Try.func101 rfl rfl rfl c101 (Nat.le_of_ble_eq_true rfl) ?_
 intro cp cc lp Q' hcp hcc hlp hQ
 repeat' (first
   | (with_reducible refine Nm.mk ?_; intro z hz)
   | (with_reducible refine IfB.mk ?_ ?_ <;> (intro h; cases h))
   | (with_reducible refine Two.l ?_; refine Asm.mk ?_ ?_; focus (decide +kernel))
   | (with_reducible refine Two.r ?_)
   | (with_reducible refine TwoT.r ?_)
   | (with_reducible refine TwoU.r ?_)
   | (with_reducible refine Asm.mk ?_ ?_; focus (first | kernel_rfl | decide))
   | (with_reducible refine isCP hcp ?_; first | (refine iP hcp (cmpstr_c a b) ?_; intro z hz))
   | (with_reducible refine isCC hcc ?_; first | (refine iA hcc (cmpstr_c a b) rfl ?_; intro z hz))
   | (with_reducible refine Asm.mk2 ?_ ?_)
   | ((fail_if_success (with_reducible first | refine hQ _ ?_ | refine Side.mk ?_ | refine isCP hcp ?_ | refine isCC hcc ?_ | refine isLP hlp ?_ | refine Ix.mk ?_ | refine SIx.mk ?_ | refine SEx.mk ?_ | refine EIx.mk ?_ | refine RIx.mk ?_ | refine LkX.mk ?_ | show False | refine hR ?_ _ ?_ ?_ ?_ ?_ ?_ | refine hR2 ?_ _ ?_ ?_ ?_ ?_ ?_)); cbv))
 all_goals (refine hQ _ ?_; clear hQ hcp hcc hlp; subst_vars; simp_all [])
theorem strCompare_c (a b : ByteArray) : PCall Try.prog 93 [.str a, .str b] fun r => r = [.int .i64 (cmpS a b)] := by
 refine PCall.x (nt := ⟨8, []⟩) (res := [.tmp 4]) mixed tt_ok [] Try.func93 rfl rfl rfl c93 (Nat.le_of_ble_eq_true rfl) ?_
 intro cp cc lp Q' hcp hcc hlp hQ
 repeat' (first
   | (with_reducible refine Nm.mk ?_; intro z hz)
   | (with_reducible refine IfB.mk ?_ ?_ <;> (intro h; cases h))
   | (with_reducible refine Two.l ?_; refine Asm.mk ?_ ?_; focus (decide +kernel))
   | (with_reducible refine Two.r ?_)
   | (with_reducible refine TwoT.r ?_)
   | (with_reducible refine TwoU.r ?_)
   | (with_reducible refine Asm.mk ?_ ?_; focus (first | kernel_rfl | decide))
   | (with_reducible refine isCP hcp ?_; first | (refine iP hcp (compareString_c a b) ?_; intro z hz))
   | (with_reducible refine isCC hcc ?_; first | (refine iA hcc (compareString_c a b) rfl ?_; intro z hz))
   | (with_reducible refine Asm.mk2 ?_ ?_)
   | ((fail_if_success (with_reducible first | refine hQ _ ?_ | refine Side.mk ?_ | refine isCP hcp ?_ | refine isCC hcc ?_ | refine isLP hlp ?_ | refine Ix.mk ?_ | refine SIx.mk ?_ | refine SEx.mk ?_ | refine EIx.mk ?_ | refine RIx.mk ?_ | refine LkX.mk ?_ | show False | refine hR ?_ _ ?_ ?_ ?_ ?_ ?_ | refine hR2 ?_ _ ?_ ?_ ?_ ?_ ?_)); cbv))
 all_goals (refine hQ _ ?_; clear hQ hcp hcc hlp; subst_vars; simp_all [])
def cmpI (a b : Int) : Int := if a < b then -1 else if b < a then 1 else 0
theorem isNaN1 (a : Int) : PCall Try.prog 99 [.int .i64 a] fun r => r = [.bool false] := by
 refine PCall.x (nt := ⟨6, []⟩) (res := [.tmp 2]) mixed tt_ok [] Try.func99 rfl rfl rfl c99 (Nat.le_of_ble_eq_true rfl) ?_
 intro cp cc lp Q' hcp hcc hlp hQ
 repeat' (first
   | (with_reducible refine Nm.mk ?_; intro z hz)
   | (with_reducible refine IfB.mk ?_ ?_ <;> (intro h; cases h))
   | (with_reducible refine Two.l ?_; refine Asm.mk ?_ ?_; focus (decide +kernel))
   | (with_reducible refine Two.r ?_)
   | (with_reducible refine TwoT.r ?_)
   | (with_reducible refine TwoU.r ?_)
   | (with_reducible refine Asm.mk ?_ ?_; focus (first | kernel_rfl | decide))
   | (with_reducible refine Asm.mk2 ?_ ?_)
   | ((fail_if_success (with_reducible first | refine hQ _ ?_ | refine Side.mk ?_ | refine isCP hcp ?_ | refine isCC hcc ?_ | refine isLP hlp ?_ | refine Ix.mk ?_ | refine SIx.mk ?_ | refine SEx.mk ?_ | refine EIx.mk ?_ | refine RIx.mk ?_ | refine LkX.mk ?_ | show False | refine hR ?_ _ ?_ ?_ ?_ ?_ ?_ | refine hR2 ?_ _ ?_ ?_ ?_ ?_ ?_)); cbv))
 all_goals (refine hQ _ ?_; clear hQ hcp hcc hlp; subst_vars; simp_all [])
theorem isNaN2 (a : Int) : PCall Try.prog 100 [.int .i64 a] fun r => r = [.bool false] := by
 refine PCall.x (nt := ⟨6, []⟩) (res := [.tmp 2]) mixed tt_ok [] Try.func100 rfl rfl rfl c100 (Nat.le_of_ble_eq_true rfl) ?_
 intro cp cc lp Q' hcp hcc hlp hQ
 repeat' (first
   | (with_reducible refine Nm.mk ?_; intro z hz)
   | (with_reducible refine IfB.mk ?_ ?_ <;> (intro h; cases h))
   | (with_reducible refine Two.l ?_; refine Asm.mk ?_ ?_; focus (decide +kernel))
   | (with_reducible refine Two.r ?_)
   | (with_reducible refine TwoT.r ?_)
   | (with_reducible refine TwoU.r ?_)
   | (with_reducible refine Asm.mk ?_ ?_; focus (first | kernel_rfl | decide))
   | (with_reducible refine Asm.mk2 ?_ ?_)
   | ((fail_if_success (with_reducible first | refine hQ _ ?_ | refine Side.mk ?_ | refine isCP hcp ?_ | refine isCC hcc ?_ | refine isLP hlp ?_ | refine Ix.mk ?_ | refine SIx.mk ?_ | refine SEx.mk ?_ | refine EIx.mk ?_ | refine RIx.mk ?_ | refine LkX.mk ?_ | show False | refine hR ?_ _ ?_ ?_ ?_ ?_ ?_ | refine hR2 ?_ _ ?_ ?_ ?_ ?_ ?_)); cbv))
 all_goals (refine hQ _ ?_; clear hQ hcp hcc hlp; subst_vars; simp_all [])
theorem compare1_c (a b : Int) : PCall Try.prog 91 [.int .i64 a, .int .i64 b] fun r => r = [.int .i64 (cmpI a b)] := by
 refine PCall.x (nt := ⟨20, []⟩) (res := [.tmp 4]) mixed tt_ok [] Try.func91 rfl rfl rfl c91 (Nat.le_of_ble_eq_true rfl) ?_
 intro cp cc lp Q' hcp hcc hlp hQ
 repeat' (first
   | (with_reducible refine Nm.mk ?_; intro z hz)
   | (with_reducible refine IfB.mk ?_ ?_ <;> (intro h; cases h))
   | (with_reducible refine Two.l ?_; refine Asm.mk ?_ ?_; focus (decide +kernel))
   | (with_reducible refine Two.r ?_)
   | (with_reducible refine TwoT.r ?_)
   | (with_reducible refine TwoU.r ?_)
   | (with_reducible refine Asm.mk ?_ ?_; focus (first | kernel_rfl | decide))
   | (with_reducible refine isCP hcp ?_; first | (refine bP hcp (isNaN1 a) ?_; intro z hz) | (refine bP hcp (isNaN1 b) ?_; intro z hz))
   | (with_reducible refine isCC hcc ?_; first | (refine bA hcc (isNaN1 a) rfl ?_; intro z hz) | (refine bA hcc (isNaN1 b) rfl ?_; intro z hz))
   | (with_reducible refine Asm.mk2 ?_ ?_)
   | ((fail_if_success (with_reducible first | refine hQ _ ?_ | refine Side.mk ?_ | refine isCP hcp ?_ | refine isCC hcc ?_ | refine isLP hlp ?_ | refine Ix.mk ?_ | refine SIx.mk ?_ | refine SEx.mk ?_ | refine EIx.mk ?_ | refine RIx.mk ?_ | refine LkX.mk ?_ | show False | refine hR ?_ _ ?_ ?_ ?_ ?_ ?_ | refine hR2 ?_ _ ?_ ?_ ?_ ?_ ?_)); cbv))
 all_goals (refine hQ _ ?_; clear hQ hcp hcc hlp; subst_vars; simp_all [cmpI]; try omega)
theorem compare2_c (a b : Int) : PCall Try.prog 92 [.int .i64 a, .int .i64 b] fun r => r = [.int .i64 (cmpI a b)] := by
 refine PCall.x (nt := ⟨20, []⟩) (res := [.tmp 4]) mixed tt_ok [] Try.func92 rfl rfl rfl c92 (Nat.le_of_ble_eq_true rfl) ?_
 intro cp cc lp Q' hcp hcc hlp hQ
 repeat' (first
   | (with_reducible refine Nm.mk ?_; intro z hz)
   | (with_reducible refine IfB.mk ?_ ?_ <;> (intro h; cases h))
   | (with_reducible refine Two.l ?_; refine Asm.mk ?_ ?_; focus (decide +kernel))
   | (with_reducible refine Two.r ?_)
   | (with_reducible refine TwoT.r ?_)
   | (with_reducible refine TwoU.r ?_)
   | (with_reducible refine Asm.mk ?_ ?_; focus (first | kernel_rfl | decide))
   | (with_reducible refine isCP hcp ?_; first | (refine bP hcp (isNaN2 a) ?_; intro z hz) | (refine bP hcp (isNaN2 b) ?_; intro z hz))
   | (with_reducible refine isCC hcc ?_; first | (refine bA hcc (isNaN2 a) rfl ?_; intro z hz) | (refine bA hcc (isNaN2 b) rfl ?_; intro z hz))
   | (with_reducible refine Asm.mk2 ?_ ?_)
   | ((fail_if_success (with_reducible first | refine hQ _ ?_ | refine Side.mk ?_ | refine isCP hcp ?_ | refine isCC hcc ?_ | refine isLP hlp ?_ | refine Ix.mk ?_ | refine SIx.mk ?_ | refine SEx.mk ?_ | refine EIx.mk ?_ | refine RIx.mk ?_ | refine LkX.mk ?_ | show False | refine hR ?_ _ ?_ ?_ ?_ ?_ ?_ | refine hR2 ?_ _ ?_ ?_ ?_ ?_ ?_)); cbv))
 all_goals (refine hQ _ ?_; clear hQ hcp hcc hlp; subst_vars; simp_all [cmpI]; try omega)
def orI : List Int → Int
 | [] => 0
 | x :: r => if x = 0 then orI r else x
theorem or_c (l : List Int) (L : List (List PV)) (hL : l.map i64c = L) (hs : l.length ≤ 1000) : PCall Try.prog 90 [.sl L] fun r => r = [.int .i64 (orI l)] := by
 have hLl : L.length = l.length := by rw [← hL]; simp
 refine PCall.x (nt := ⟨18, []⟩) (res := [.tmp 2]) mixed tt_ok [] Try.func90 rfl rfl rfl c90 (Nat.le_of_ble_eq_true rfl) ?_
 intro cp cc lp Q' hcp hcc hlp hQ
 repeat' (first
   | (with_reducible refine Nm.mk ?_; intro z hz)
   | (with_reducible refine IfB.mk ?_ ?_ <;> (intro h; cases h))
   | (with_reducible refine Two.l ?_; refine Asm.mk ?_ ?_; focus (decide +kernel))
   | (with_reducible refine Two.r ?_)
   | (with_reducible refine TwoT.r ?_)
   | (with_reducible refine TwoU.r ?_)
   | (with_reducible refine Asm.mk ?_ ?_; focus (first | kernel_rfl | decide))
   | (with_reducible refine Asm.mk2 ?_ ?_)
   | ((fail_if_success (with_reducible first | refine hQ _ ?_ | refine Side.mk ?_ | refine isCP hcp ?_ | refine isCC hcc ?_ | refine isLP hlp ?_ | refine Ix.mk ?_ | refine SIx.mk ?_ | refine SEx.mk ?_ | refine EIx.mk ?_ | refine RIx.mk ?_ | refine LkX.mk ?_ | show False | refine hR ?_ _ ?_ ?_ ?_ ?_ ?_ | refine hR2 ?_ _ ?_ ?_ ?_ ?_ ?_)); cbv))
 simp only [nc] at hz
 simp only [nc'] at hz
 refine loopK (ι := Int) mixed tt_ok hcp hcc hlp [3, 6, 7] (fun i => [(8, .p (.int .i64 i))]) (fun i => (0 ≤ i ∧ i ≤ z) ∧ orI (l.drop i.toNat) = orI l) (fun i => (z - i).toNat) 0 (fun _ => rfl) ⟨by omega, rfl⟩ ⟨rfl, trivial⟩ ?_
 intro R i hi hR
 have hi0 : 0 ≤ i := hi.1.1
 have hi1 : i ≤ z := hi.1.2
 have hd := hi.2
 have hk : decide (i < z) = true → i < l.length := by simp only [decide_eq_true_eq]; omega
 have hge : decide (i < z) = false → l.drop i.toNat = [] := by intro h; simp only [decide_eq_false_iff_not] at h; exact List.drop_eq_nil_of_le (by omega)
 have hst : decide (i < z) = true → IntKind.i64.wrap (i + 1) = i + 1 ∧ (0 ≤ i + 1 ∧ i + 1 ≤ z) ∧ (z - (i + 1)).toNat < (z - i).toNat := by
   intro h
   simp only [decide_eq_true_eq] at h
   exact ⟨wrap_in (by omega), by omega, by omega⟩
 have hdr : ∀ x, l[i.toNat]? = some x → l.drop i.toNat = x :: l.drop (i + 1).toNat := by
   intro x hx
   have hlt := (List.getElem?_eq_some_iff.1 hx).1
   rw [List.drop_eq_getElem_cons hlt, show (i + 1).toNat = i.toNat + 1 by omega]
   congr 1
   exact (List.getElem?_eq_some_iff.1 hx).2
 repeat' (first
   | (with_reducible refine Nm.mk ?_; intro z hz)
   | (with_reducible refine IfB.mk ?_ ?_ <;> (intro h; cases h))
   | (with_reducible refine Two.l ?_; refine Asm.mk ?_ ?_; focus (decide +kernel))
   | (with_reducible refine Two.r ?_)
   | (with_reducible refine TwoT.r ?_)
   | (with_reducible refine TwoU.r ?_)
   | (with_reducible refine Asm.mk ?_ ?_; focus kernel_rfl)
   | (with_reducible refine Ix.map hL i64c_len (by decide) hi0 (hk (by assumption)) ?_; intro x hx)
   | (with_reducible refine Asm.mk2 ?_ ?_)
   | ((fail_if_success (with_reducible first | refine hQ _ ?_ | refine Side.mk ?_ | refine isCP hcp ?_ | refine isCC hcc ?_ | refine isLP hlp ?_ | refine Ix.mk ?_ | refine SIx.mk ?_ | refine SEx.mk ?_ | refine EIx.mk ?_ | refine RIx.mk ?_ | refine LkX.mk ?_ | show False | refine hR ?_ _ ?_ ?_ ?_ ?_ ?_ | refine hR2 ?_ _ ?_ ?_ ?_ ?_ ?_)); cbv))
 · refine hQ _ ?_
   rw [← hd, hdr x hx]
   have : ¬ x = 0 := by clear hQ hR hcp hcc hlp; simp_all
   simp [orI, this]
 · obtain ⟨e1, e2, e3⟩ := hst (by assumption)
   rw [e1] at hz
   refine hR (i + 1) _ ⟨e2, ?_⟩ e3 ⟨hz ▸ rfl, trivial⟩ ⟨rfl, rfl, rfl, trivial⟩ rfl
   rw [hdr x hx] at hd
   have : x = 0 := by clear hQ hR hcp hcc hlp; simp_all
   rw [← hd]; simp [orI, this]
 · refine hQ _ ?_
   rw [← hd, hge (by assumption)]; rfl
theorem or3_c (a b c : Int) : PCall Try.prog 90 [.sl [[.int .i64 a], [.int .i64 b], [.int .i64 c]]] fun r => r = [.int .i64 (orI [a, b, c])] := or_c [a, b, c] _ rfl (by simp)
def orderV (a b : Val) : Int := orI [cmpI (clean a).k (clean b).k, cmpI (clean a).n (clean b).n, cmpS (clean a).s (clean b).s]
theorem order_c (k n : Int) (s : ByteArray) (k' n' : Int) (s' : ByteArray) : PCall Try.prog 72 [.agg [.int .i64 k, .int .i64 n, .str s], .agg [.int .i64 k', .int .i64 n', .str s']] fun r => r = [.int .i64 (orderV ⟨k, n, s⟩ ⟨k', n', s'⟩)] := by
 refine PCall.x (nt := ⟨26, []⟩) (res := [.tmp 4]) mixed tt_ok [] Try.func72 rfl rfl rfl c72 (Nat.le_of_ble_eq_true rfl) ?_
 intro cp cc lp Q' hcp hcc hlp hQ
 repeat' (first
   | (with_reducible refine Nm.mk ?_; intro z hz)
   | (with_reducible refine IfB.mk ?_ ?_ <;> (intro h; cases h))
   | (with_reducible refine Two.l ?_; refine Asm.mk ?_ ?_; focus (decide +kernel))
   | (with_reducible refine Two.r ?_)
   | (with_reducible refine TwoT.r ?_)
   | (with_reducible refine TwoU.r ?_)
   | (with_reducible refine Asm.mk ?_ ?_; focus (first | kernel_rfl | decide))
   | (with_reducible refine isCP hcp ?_; first | (refine vP hcp (clean_c k n s) ?_; intro v hv) | (refine vP hcp (clean_c k' n' s') ?_; intro v hv) | (refine iP hcp (compare1_c _ _) ?_; intro z hz) | (refine iP hcp (compare2_c _ _) ?_; intro z hz) | (refine iP hcp (strCompare_c _ _) ?_; intro z hz) | (refine iP hcp (or3_c _ _ _) ?_; intro z hz))
   | (with_reducible refine isCC hcc ?_; first | (refine vA hcc (clean_c k n s) rfl ?_; intro v hv) | (refine vA hcc (clean_c k' n' s') rfl ?_; intro v hv) | (refine iA hcc (compare1_c _ _) rfl ?_; intro z hz) | (refine iA hcc (compare2_c _ _) rfl ?_; intro z hz) | (refine iA hcc (strCompare_c _ _) rfl ?_; intro z hz) | (refine iA hcc (or3_c _ _ _) rfl ?_; intro z hz))
   | (with_reducible refine Asm.mk2 ?_ ?_)
   | ((fail_if_success (with_reducible first | refine hQ _ ?_ | refine Side.mk ?_ | refine isCP hcp ?_ | refine isCC hcc ?_ | refine isLP hlp ?_ | refine Ix.mk ?_ | refine SIx.mk ?_ | refine SEx.mk ?_ | refine EIx.mk ?_ | refine RIx.mk ?_ | refine LkX.mk ?_ | show False | refine hR ?_ _ ?_ ?_ ?_ ?_ ?_ | refine hR2 ?_ _ ?_ ?_ ?_ ?_ ?_)); cbv))
 all_goals (refine hQ _ ?_; clear hQ hcp hcc hlp; subst_vars; simp [orderV])
end Go.Proofs.Ytcajncmjlmpkgaa

namespace Go.Proofs.Ytcajncmjlmpkgaa
open Go Go.RowKit
set_option maxRecDepth 100000
set_option linter.unusedSimpArgs false
set_option linter.unusedVariables false
end Go.Proofs.Ytcajncmjlmpkgaa

namespace Go.Proofs.Ytcajncmjlmpkgaa
open Go Go.RowKit
set_option maxRecDepth 100000
set_option linter.unusedSimpArgs false
set_option linter.unusedVariables false
def bitU (x k t : Int) : Int := IntKind.u8.wrap (IntKind.u8.wrap (IntKind.u64.wrap ((BitVec.ofInt IntKind.u64.bits (x.fdiv (2 ^ min k.toNat IntKind.u64.bits)) &&& BitVec.ofInt IntKind.u64.bits 1).toNat : Int)) * 2 ^ min t.toNat IntKind.u8.bits)
def orU8 (c : UInt8) (m : Int) : Int := IntKind.u8.wrap ((BitVec.ofInt IntKind.u8.bits (c.toNat : Int) ||| BitVec.ofInt IntKind.u8.bits m).toNat : Int)
def orB (c : UInt8) (m : Int) : UInt8 := UInt8.ofNat (orU8 c m).toNat
theorem u8_in (n : Int) : 0 ≤ IntKind.u8.wrap n ∧ IntKind.u8.wrap n < 256 := by simp [IntKind.wrap, IntKind.bits, IntKind.signed]; omega
theorem orB_c (c : UInt8) (m : Int) : [PV.int .u8 (orU8 c m)] = byteC (orB c m) := by
 have := u8_in ((BitVec.ofInt IntKind.u8.bits (c.toNat : Int) ||| BitVec.ofInt IntKind.u8.bits m).toNat : Int)
 have e : ((orB c m).toNat : Int) = orU8 c m := by
   rw [orB, UInt8.toNat_ofNat']
   show ((orU8 c m).toNat % 256 : Nat) = (orU8 c m : Int)
   have h1 : 0 ≤ orU8 c m := this.1
   have h2 : orU8 c m < 256 := this.2
   omega
 rw [byteC, e]
def setB (b : List UInt8) (i : Nat) (m : Int) : List UInt8 := b.set i (orB (b.getD i 0) m)
def growB (b : List UInt8) (a : Int) : List UInt8 := if a.tmod 8 = 0 then b ++ [0] else b
def lay1 (b : List UInt8) (a m : Int) : List UInt8 := setB (growB b a) (a / 8).toNat m
def layN (x a : Int) (b : List UInt8) : Nat → List UInt8
 | 0 => b
 | j + 1 => lay1 (layN x a b j) (a + j) (bitU x j ((a + j).tmod 8))
def At8 (a : Int) (b : List UInt8) : Prop := 0 ≤ a ∧ (b.length : Int) = (a + 7) / 8
theorem growB_len {a : Int} {b : List UInt8} (h : At8 a b) : ((growB b a).length : Int) = a / 8 + 1 := by
 obtain ⟨h0, h1⟩ := h
 rw [growB, Int.tmod_eq_emod_of_nonneg h0]
 split
 · rw [List.length_append, List.length_singleton]; omega
 · omega
theorem lay1_at {a : Int} {b : List UInt8} (h : At8 a b) (m : Int) : At8 (a + 1) (lay1 b a m) := by
 have := growB_len h
 have h0 := h.1
 refine ⟨by omega, ?_⟩
 rw [lay1, setB, List.length_set, this]; omega
theorem layN_at {x a : Int} {b : List UInt8} (h : At8 a b) : ∀ j : Nat, At8 (a + j) (layN x a b j)
 | 0 => by simpa [layN] using h
 | j + 1 => by
   have := lay1_at (layN_at (x := x) h j) (bitU x j ((a + j).tmod 8))
   rw [layN, show a + ((j + 1 : Nat) : Int) = a + j + 1 by omega]; exact this
structure Bits (x a0 : Int) (b0 : List UInt8) (k a : Int) (n : Nat) (L : List (List PV)) : Prop where
 k0 : 0 ≤ k
 e : bl (layN x a0 b0 k.toNat) = L
 len : L.length = n
 at_ : a = a0 + k
 n8 : (n : Int) = (a + 7) / 8
 pos : 0 ≤ a
theorem Bits.step {x a0 : Int} {b0 : List UInt8} {k a : Int} {n : Nat} {L : List (List PV)} (h : Bits x a0 b0 k a n L) {L2 : List (List PV)} {n2 : Nat} (e : bl (lay1 (layN x a0 b0 k.toNat) a (bitU x k (a.tmod 8))) = L2) (hn : L2.length = n2) : Bits x a0 b0 (k + 1) (a + 1) n2 L2 := by
 have hk := h.k0
 have ha := h.at_
 have hl : layN x a0 b0 (k + 1).toNat = lay1 (layN x a0 b0 k.toNat) a (bitU x k (a.tmod 8)) := by
   rw [show (k + 1).toNat = k.toNat + 1 by omega, layN, show ((k.toNat : Nat) : Int) = k by omega, ← ha]
 have h8 : At8 a (layN x a0 b0 k.toNat) := by
   refine ⟨h.pos, ?_⟩
   rw [← h.n8, ← h.len, ← h.e, List.length_map]
 have h9 := lay1_at h8 (bitU x k (a.tmod 8))
 refine ⟨by omega, by rw [hl]; exact e, hn, by omega, ?_, h9.1⟩
 rw [← hn, ← e, List.length_map, h9.2]
theorem last_byte {b : List UInt8} {a : Int} (h : At8 a b) {L : List (List PV)} (e : bl (growB b a) = L) : L[(a / 8).toNat]? = some [.int .u8 (((growB b a).getD (a / 8).toNat 0).toNat : Int)] ∧ (a / 8).toNat < L.length := by
 have hl := growB_len h
 have h0 := h.1
 have hlt : (a / 8).toNat < (growB b a).length := by omega
 refine ⟨?_, by rw [← e, List.length_map]; exact hlt⟩
 rw [← e, List.getElem?_map]; simp [List.getD, hlt, byteC]
set_option maxHeartbeats 1000000 in
theorem put_c (x W at_ : Int) (hW : 0 ≤ W ∧ W ≤ 64) (g : Nat) (l : List UInt8) (h8 : At8 at_ l) (hat : at_ ≤ 1000000000) (L : List (List PV)) (hL : bl l = L) (n : Nat) (hn : L.length = n) :
   ACall Try.prog 36 [.ref 0 0, .p (.int .u64 x), .p (.int .i64 W)] [.cells [.vec 1 g 1 0 n, .p (.int .i64 at_)], .vec g L 1] fun r H' => r = packV [] ∧ ∃ g', takeX H' 2 = [.cells [.vec 1 g' 1 0 (layN x at_ l W.toNat).length, .p (.int .i64 (at_ + W))], .vec g' (bl (layN x at_ l W.toNat)) 1] := by
 have hl8 : (n : Int) = (at_ + 7) / 8 := by rw [← hn, ← hL, List.length_map]; exact h8.2
 have hB0 : Bits x at_ l 0 at_ n L := ⟨Int.le_refl 0, hL, hn, by omega, hl8, h8.1⟩
 refine ACall.x (nt := ⟨59, []⟩) (res := []) mixed tt_ok [] Try.func36 rfl rfl rfl c36 (Nat.le_of_ble_eq_true rfl) ?_
 intro cp cc lp Q' hcp hcc hlp hQ
 repeat' (first
   | (with_reducible refine Nm.mk ?_; intro z hz)
   | (with_reducible refine IfB.mk ?_ ?_ <;> (intro h; cases h))
   | (with_reducible refine Two.l ?_; refine Asm.mk ?_ ?_; focus (decide +kernel))
   | (with_reducible refine Two.r ?_)
   | (with_reducible refine TwoT.r ?_)
   | (with_reducible refine TwoU.r ?_)
   | (with_reducible refine Asm.mk ?_ ?_; focus (first | (show (_ : Bool) = true; kernel_rfl)))
   | (with_reducible refine Asm.mk2 ?_ ?_)
   | ((fail_if_success (with_reducible first | refine hQ _ _ ?_ | refine Side.mk ?_ | refine isCP hcp ?_ | refine isCC hcc ?_ | refine isLP hlp ?_ | refine Ix.mk ?_ | refine SIx.mk ?_ | refine SEx.mk ?_ | refine EIx.mk ?_ | refine RIx.mk ?_ | refine LkX.mk ?_ | show False | refine hR ?_ _ ?_ ?_ ?_ ?_ ?_ | refine hR2 ?_ _ ?_ ?_ ?_ ?_ ?_)); cbv))
 refine loopT (ι := Int × Int × Nat × Nat × List (List PV)) mixed tt_ok hcp hcc hlp [0, 1, 7] (fun p => [(8, .p (.int .i64 p.1))]) (fun p => [.cells [.vec 1 p.2.2.1 1 0 p.2.2.2.1, .p (.int .i64 p.2.1)], .vec p.2.2.1 p.2.2.2.2 1]) (fun p => p.1 ≤ W ∧ Bits x at_ l p.1 p.2.1 p.2.2.2.1 p.2.2.2.2) (fun p => (W - p.1).toNat) (0, at_, g, n, L) 2 (fun _ => rfl) ⟨hW.1, hB0⟩ ⟨rfl, trivial⟩ rfl ?_
 rintro R ⟨k, a, g, n, L⟩ ⟨hkW, hB⟩ hR
 replace hkW : k ≤ W := hkW
 replace hB : Bits x at_ l k a n L := hB
 have hk0 := hB.k0
 have hpos := hB.pos
 have hBn := hB.n8
 have hBa := hB.at_
 have hlen := hB.len
 have hA8 : At8 a (layN x at_ l k.toNat) := by
   refine ⟨h8.1 |> fun _ => hpos, ?_⟩
   rw [← hBn, ← hlen, ← hB.e, List.length_map]
 have hn31 : n ≤ 1000000000 := by clear hR hQ; omega
 have htake : List.take n L = L := by rw [← hlen]; exact List.take_length
 have happ : n ≤ L.length ∧ okEs 1 (List.take n L) = true ∧ okEs 1 [[PV.int .u8 0]] = true ∧ n + [[PV.int .u8 0]].length ≤ maxLen ∧ (n + [[PV.int .u8 0]].length) * 1 ≤ 140737488355328 := by
   refine ⟨by omega, by rw [htake, ← hB.e]; exact okEs_bl _, rfl, ?_, ?_⟩
   · show n + 1 ≤ 9223372036854775807; omega
   · show (n + 1) * 1 ≤ 140737488355328; omega
 have hgd : ∀ {z14 : Int}, decide (z14 = 0) = true → a.tmod 8 = z14 → bl (growB (layN x at_ l k.toNat) a) = List.take n L ++ [[PV.int .u8 0]] := by
   intro z h0 h
   rw [growB, h, if_pos (of_decide_eq_true h0), htake, ← hB.e]; exact List.map_append
 have hgs : ∀ {z14 : Int}, decide (z14 = 0) = false → a.tmod 8 = z14 → bl (growB (layN x at_ l k.toNat) a) = L := by
   intro z h0 h
   rw [growB, h, if_neg (of_decide_eq_false h0)]; exact hB.e
 have hGl := growB_len hA8
 have hlb := @last_byte (layN x at_ l k.toNat) a hA8
 generalize hgG : growB (layN x at_ l k.toNat) a = G at hgd hgs hGl hlb
 generalize hcG : G.getD (a / 8).toNat 0 = c at hlb
 have hplace : ∀ {n1 : Nat} {z10 z9 : Int}, IntKind.i64.wrap (z10 - 1) = z9 → (n1 : Int) = z10 → (n1 : Int) = a / 8 + 1 → z9 = a / 8 := by
   intro n1 z10 z9 h1 h2 h3
   rw [wrap_in (by omega)] at h1; omega
 have hnA : ∀ {z14 : Int} {n1 : Nat}, n + [[PV.int .u8 0]].length = n1 → decide (z14 = 0) = true → a.tmod 8 = z14 → (n1 : Int) = a / 8 + 1 := by
   intro z n1 h1 h2 h3
   have := congrArg List.length (hgd h2 h3)
   rw [List.length_map, htake, List.length_append] at this
   rw [hlen] at this; omega
 have hnB : ∀ {z14 : Int}, decide (z14 = 0) = false → a.tmod 8 = z14 → (n : Int) = a / 8 + 1 := by
   intro z h2 h3
   have := congrArg List.length (hgs h2 h3)
   rw [List.length_map] at this
   rw [hlen] at this; omega
 have hoff : ∀ {z9 : Int} {z8 : Nat}, (0 + z9.toNat) * 1 = z8 → z9 = a / 8 → (a / 8).toNat * 1 = z8 := by rintro z9 z8 h rfl; omega
 have hixA : ∀ {z9 : Int} {n1 : Nat}, z9 = a / 8 → (n1 : Int) = a / 8 + 1 → 0 ≤ z9 ∧ z9 < n1 := by rintro z9 n1 rfl h; omega
 have hok0 : okEs 1 (List.take n L) = true := happ.2.1
 have hok1 : okEs 1 [[PV.int .u8 0]] = true := rfl
 have hapl : ∀ {L1 : List (List PV)} {z14 : Int}, List.take n L ++ [[PV.int .u8 0]] = L1 → decide (z14 = 0) = true → a.tmod 8 = z14 → bl G = L1 := by
   intro L1 z h1 h2 h3; rw [← h1]; exact hgd h2 h3
 have hmod : ∀ {z : Int}, a.tmod 8 = z → ¬ z < 0 := by
   intro z h; rw [Int.tmod_eq_emod_of_nonneg hpos] at h; omega
 have hset : ∀ {z7 z6 z5 z4 z3 z2 : Int} {L1 L2 : List (List PV)}, x.fdiv (2 ^ min k.toNat IntKind.u64.bits) = z7 → IntKind.u64.wrap ((BitVec.ofInt IntKind.u64.bits z7 &&& BitVec.ofInt IntKind.u64.bits 1).toNat : Int) = z6 → IntKind.u8.wrap z6 = z5 → a.tmod 8 = z4 → IntKind.u8.wrap (z5 * 2 ^ min z4.toNat IntKind.u8.bits) = z3 → IntKind.u8.wrap ((BitVec.ofInt IntKind.u8.bits (c.toNat : Int) ||| BitVec.ofInt IntKind.u8.bits z3).toNat : Int) = z2 → L1.set (a / 8).toNat [PV.int .u8 z2] = L2 → bl G = L1 → bl (lay1 (layN x at_ l k.toNat) a (bitU x k (a.tmod 8))) = L2 := by
   intro z7 z6 z5 z4 z3 z2 L1 L2 h7 h6 h5 h4 h3 h2 hL2 hL1
   subst h7 h6 h5 h4 h3 h2 hL2 hL1
   rw [lay1, setB, hgG, hcG]
   exact List.map_set.trans (by rw [← orB_c]; rfl)
 repeat' (first
   | (with_reducible refine Nm.mk ?_; intro z hz)
   | (with_reducible refine IfB.mk ?_ ?_ <;> (intro h; cases h))
   | (with_reducible refine Two.l ?_; refine Asm.mk ?_ ?_; focus (decide +kernel))
   | (with_reducible refine Two.r ?_)
   | (with_reducible refine TwoT.r ?_)
   | (with_reducible refine TwoU.r ?_)
   | (with_reducible refine Asm.mk ?_ ?_; focus (first | rfl | (show (_ : Bool) = true; kernel_rfl) | decide | exact Int.not_lt.2 hk0 | exact hmod (by assumption) | exact ⟨rfl, rfl, rfl, happ⟩ | exact hixA (hplace (by assumption) (by assumption) (hnA (by assumption) (by assumption) (by assumption))) (hnA (by assumption) (by assumption) (by assumption)) | exact hixA (hplace (by assumption) (by assumption) (hnB (by assumption) (by assumption))) (hnB (by assumption) (by assumption))))
   | (with_reducible refine EIx.at_ (a / 8).toNat [.int .u8 (c.toNat : Int)] (hoff (by assumption) (hplace (by assumption) (by assumption) (hnA (by assumption) (by assumption) (by assumption)))) (hlb (hapl (by assumption) (by assumption) (by assumption))).1 ?_)
   | (with_reducible refine EIx.at_ (a / 8).toNat [.int .u8 (c.toNat : Int)] (hoff (by assumption) (hplace (by assumption) (by assumption) (hnB (by assumption) (by assumption)))) (hlb (hgs (by assumption) (by assumption))).1 ?_)
   | (with_reducible refine SEx.at_ (a / 8).toNat (hoff (by assumption) (hplace (by assumption) (by assumption) (hnA (by assumption) (by assumption) (by assumption)))) (hlb (hapl (by assumption) (by assumption) (by assumption))).2 rfl ?_; intro L2 hL2)
   | (with_reducible refine SEx.at_ (a / 8).toNat (hoff (by assumption) (hplace (by assumption) (by assumption) (hnB (by assumption) (by assumption)))) (hlb (hgs (by assumption) (by assumption))).2 rfl ?_; intro L2 hL2)
   | (with_reducible refine Asm.mk2 ?_ ?_)
   | ((fail_if_success (with_reducible first | refine hQ _ _ ?_ | refine Side.mk ?_ | refine isCP hcp ?_ | refine isCC hcc ?_ | refine isLP hlp ?_ | refine Ix.mk ?_ | refine SIx.mk ?_ | refine SEx.mk ?_ | refine EIx.mk ?_ | refine RIx.mk ?_ | refine LkX.mk ?_ | show False | refine hR ?_ _ ?_ ?_ ?_ ?_ ?_ | refine hR2 ?_ _ ?_ ?_ ?_ ?_ ?_)); cbv))
 · rename_i hkk z14 h14 h14d gA hgA nA hnA1 LA hLA z10 h10 z9 h9 z8 h8' z7 h7 z6 h6 z5 h5 z4 h4 z3 h3 z2 h2 zo ho za ha
   have hs := hB.step (n2 := L2.length) (hset h7 h6 h5 h4 h3 h2 hL2 (hapl hLA h14d h14)) rfl
   have hnL : L2.length = nA := by rw [← hL2, List.length_set, ← hLA, htake, List.length_append, hlen, ← hnA1]
   simp only [decide_eq_true_eq] at hkk
   rw [wrap_in (by omega)] at hz ha
   subst hz ha
   rw [hnL] at hs
   exact hR (k + 1, a + 1, gA, nA, L2) _ ⟨by show k + 1 ≤ W; omega, hs⟩ (by show (W - (k + 1)).toNat < (W - k).toNat; omega) ⟨rfl, trivial⟩ ⟨rfl, rfl, rfl, trivial⟩ rfl
 · rename_i hkk z14 h14 h14d z10 h10 z9 h9 z8 h8' z7 h7 z6 h6 z5 h5 z4 h4 z3 h3 z2 h2 zo ho za ha
   have hs := hB.step (n2 := L2.length) (hset h7 h6 h5 h4 h3 h2 hL2 (hgs h14d h14)) rfl
   have hnL : L2.length = n := by rw [← hL2, List.length_set, hlen]
   simp only [decide_eq_true_eq] at hkk
   rw [wrap_in (by omega)] at hz ha
   subst hz ha
   rw [hnL] at hs
   exact hR (k + 1, a + 1, g, n, L2) _ ⟨by show k + 1 ≤ W; omega, hs⟩ (by show (W - (k + 1)).toNat < (W - k).toNat; omega) ⟨rfl, trivial⟩ ⟨rfl, rfl, rfl, trivial⟩ rfl
 · have hkk : k = W := by
     have := of_decide_eq_false hz; omega
   subst hkk
   refine hQ _ _ ⟨rfl, g, ?_⟩
   have e := hB.e
   have e2 : (layN x at_ l k.toNat).length = n := by rw [← hlen, ← e, List.length_map]
   rw [e2, ← hBa]
   exact congrArg (fun l => [AObj.cells [AV.vec 1 g 1 0 n, AV.p (PV.int IntKind.i64 a)], AObj.vec g l 1]) e.symm
end Go.Proofs.Ytcajncmjlmpkgaa

namespace Go.Proofs.Ytcajncmjlmpkgaa
open Go Go.RowKit
set_option maxRecDepth 100000
set_option linter.unusedSimpArgs false
set_option linter.unusedVariables false
def lenF : Nat → Nat → Nat
 | 0, _ => 0
 | f + 1, n => if n = 0 then 0 else lenF f (n / 2) + 1
theorem lenF_more : ∀ {f n : Nat}, n < 2 ^ f → lenF (f + 1) n = lenF f n
 | 0, n, h => by
   have : n = 0 := by simpa using h
   subst this; rfl
 | f + 1, n, h => by
   show (if n = 0 then 0 else lenF (f + 1) (n / 2) + 1) = (if n = 0 then 0 else lenF f (n / 2) + 1)
   rw [lenF_more (f := f) (n := n / 2) (by rw [Nat.pow_succ] at h; omega)]
theorem lenF_le : ∀ (f n : Nat), lenF f n ≤ f
 | 0, _ => Nat.le_refl _
 | f + 1, n => by
   rw [lenF]; split
   · omega
   · have := lenF_le f (n / 2); omega
def lenI (x : Int) : Int := (lenF 64 x.toNat : Nat)
theorem lenI_le (x : Int) : 0 ≤ lenI x ∧ lenI x ≤ 64 := by
 have := lenF_le 64 x.toNat
 rw [lenI]; omega
theorem lenI_half {x : Int} (h : 0 < x) (hx : x < 18446744073709551616) : lenI x = lenI (x / 2) + 1 := by
 have e : (x / 2).toNat = x.toNat / 2 := by omega
 have h2 : lenF 64 (x.toNat / 2) = lenF 63 (x.toNat / 2) := lenF_more (f := 63) (by omega)
 rw [lenI, lenI, e, h2, lenF, if_neg (by omega)]; rfl
theorem lenI_shift : ∀ (k : Nat) {x : Int}, (2 : Int) ^ k ≤ x → x < 18446744073709551616 → lenI x = k + lenI (x / 2 ^ k)
 | 0, x, _, _ => by simp
 | k + 1, x, h, hx => by
   have hp : (0 : Int) < 2 ^ k := Int.pow_pos (by decide)
   have e : (2 : Int) ^ (k + 1) = 2 ^ k * 2 := Int.pow_succ ..
   have hk : (2 : Int) ^ k ≤ x := by omega
   have hd : 0 < x / 2 ^ k := by
     have := (Int.le_ediv_iff_mul_le hp (a := 1) (b := x)).2 (by omega)
     omega
   have hle : x / 2 ^ k ≤ x := Int.ediv_le_self _ (by omega)
   rw [lenI_shift k hk hx, lenI_half hd (by omega), e, ← Int.ediv_ediv_of_nonneg (by omega)]
   push_cast; omega
theorem SIx.tab {s : ByteArray} {n : Int} {K : Int → Prop} (hs : s.data.toList.map UInt8.toNat = (List.range 256).map (lenF 64)) (h : 0 ≤ n ∧ n < 256) (k : ∀ z, lenI n = z → K z) : SIx s n K := by
 have hl : s.data.toList.length = 256 := by
   have := congrArg List.length hs
   rwa [List.length_map, List.length_map, List.length_range] at this
 have hlt : n.toNat < s.data.toList.length := by omega
 refine ⟨s.data.toList[n.toNat], h.1, ?_, fun z hz => k z ?_⟩
 · have : n.toNat < s.size := hlt
   rw [getElem?_pos s n.toNat this]; rfl
 · have h1 : (s.data.toList.map UInt8.toNat)[n.toNat]? = ((List.range 256).map (lenF 64))[n.toNat]? := by rw [hs]
   rw [List.getElem?_map, List.getElem?_eq_getElem hlt, List.getElem?_map, List.getElem?_range (by omega : n.toNat < 256)] at h1
   have h2 := Option.some.inj h1
   rw [← hz]
   exact congrArg (fun a : Nat => (a : Int)) h2.symm
def St (c k : Int) (a b w w' : Int) : Prop := (c ≤ a ∧ a.fdiv (2 ^ min (Int.toNat k) IntKind.u64.bits) = b ∧ IntKind.i64.wrap (w + k) = w') ∨ (¬ c ≤ a ∧ a = b ∧ w = w')
theorem St.go {c k : Int} {a b w w' : Int} (h : St c k a b w w') (hc : c = 2 ^ k.toNat) (hk : 0 ≤ k ∧ k ≤ 64) (ha : 0 ≤ a ∧ a < 18446744073709551616) (hw : 0 ≤ w ∧ w ≤ 1000) : (c ≤ a ∧ b = a / c ∧ lenI a = k + lenI b ∧ w' = w + k) ∨ (a < c ∧ b = a ∧ w' = w) := by
 have hp : (0 : Int) < 2 ^ k.toNat := Int.pow_pos (by decide)
 rcases h with ⟨h1, h2, h3⟩ | ⟨h1, h2, h3⟩
 · rw [show min k.toNat IntKind.u64.bits = k.toNat from Nat.min_eq_left (by show k.toNat ≤ 64; omega), Int.fdiv_eq_ediv_of_nonneg _ (Int.le_of_lt hp)] at h2
   rw [wrap_in (by omega)] at h3
   subst h2 h3
   have := lenI_shift k.toNat (by rw [← hc]; exact h1) ha.2
   exact .inl ⟨h1, by rw [hc], by omega, rfl⟩
 · subst h2 h3
   exact .inr ⟨by omega, rfl, rfl⟩
theorem len_fin {x z1 z2 z3 w1 w2 w3 zu y y' zr : Int} (hr : IntKind.i64.wrap (w3 + y') = zr) (hy' : IntKind.i64.wrap y = y') (hy : lenI zu = y) (hu : IntKind.u8.wrap z3 = zu) (s3 : St 256 8 z2 z3 w2 w3) (s2 : St 65536 16 z1 z2 w1 w2) (s1 : St 4294967296 32 x z1 0 w1) (hx : 0 ≤ x ∧ x < 18446744073709551616) : zr = lenI x := by
 have g1 := s1.go (by decide) (by decide) hx (by omega)
 have hx1 : 0 ≤ z1 ∧ z1 < 4294967296 ∧ lenI x = lenI z1 + w1 ∧ 0 ≤ w1 ∧ w1 ≤ 32 := by
   rcases g1 with ⟨h1, h2, h3, h4⟩ | ⟨h1, h2, h3⟩
   · omega
   · subst h2; omega
 obtain ⟨a1, a2, a3, a4, a5⟩ := hx1
 have g2 := s2.go (by decide) (by decide) (by omega) (by omega)
 have hx2 : 0 ≤ z2 ∧ z2 < 65536 ∧ lenI z1 + w1 = lenI z2 + w2 ∧ 0 ≤ w2 ∧ w2 ≤ 48 := by
   rcases g2 with ⟨h1, h2, h3, h4⟩ | ⟨h1, h2, h3⟩
   · omega
   · subst h2; omega
 obtain ⟨b1, b2, b3, b4, b5⟩ := hx2
 have g3 := s3.go (by decide) (by decide) (by omega) (by omega)
 have hx3 : 0 ≤ z3 ∧ z3 < 256 ∧ lenI z2 + w2 = lenI z3 + w3 ∧ 0 ≤ w3 ∧ w3 ≤ 56 := by
   rcases g3 with ⟨h1, h2, h3, h4⟩ | ⟨h1, h2, h3⟩
   · omega
   · subst h2; omega
 obtain ⟨c1, c2, c3, c4, c5⟩ := hx3
 have e : zu = z3 := by rw [← hu, wrap_8]; omega
 have := lenI_le zu
 rw [wrap_in (by omega)] at hy'
 rw [wrap_in (by omega)] at hr
 subst e
 omega
set_option maxHeartbeats 1000000 in
theorem len64_c (x : Int) (hx : 0 ≤ x ∧ x < 18446744073709551616) : PCall Try.prog 73 [.int .u64 x] fun r => r = [.int .i64 (lenI x)] := by
 have hy8 : ∀ {a z : Int}, IntKind.u8.wrap a = z → 0 ≤ z ∧ z < 256 := fun h => h ▸ u8_in _
 refine PCall.x (nt := ⟨25, []⟩) (res := [.tmp 2]) mixed tt_ok [] Try.func73 rfl rfl rfl c73 (Nat.le_of_ble_eq_true rfl) ?_
 intro cp cc lp Q' hcp hcc hlp hQ
 repeat' (first
   | (with_reducible refine Nm.mk ?_; intro z hz)
   | (with_reducible refine IfB.mk ?_ ?_ <;> (intro h; cases h))
   | (with_reducible refine Two.l ?_; refine Asm.mk ?_ ?_; focus (decide +kernel))
   | (with_reducible refine Two.r ?_)
   | (with_reducible refine TwoT.r ?_)
   | (with_reducible refine TwoU.r ?_)
   | (with_reducible refine Asm.mk ?_ ?_; focus (first | (show (_ : Bool) = true; kernel_rfl) | decide))
   | (with_reducible refine SIx.tab (by decide +kernel) (hy8 (by assumption)) ?_; intro y hy)
   | (with_reducible refine Asm.mk2 ?_ ?_)
   | ((fail_if_success (with_reducible first | refine hQ _ ?_ | refine Side.mk ?_ | refine isCP hcp ?_ | refine isCC hcc ?_ | refine isLP hlp ?_ | refine Ix.mk ?_ | refine SIx.mk ?_ | refine SEx.mk ?_ | refine EIx.mk ?_ | refine RIx.mk ?_ | refine LkX.mk ?_ | show False | refine hR ?_ _ ?_ ?_ ?_ ?_ ?_ | refine hR2 ?_ _ ?_ ?_ ?_ ?_ ?_)); cbv))
 all_goals exact hQ _ (by rw [len_fin hz (by assumption) hy (by assumption) (by first | exact .inl ⟨of_decide_eq_true (by assumption), by assumption, by first | assumption | rfl⟩ | exact .inr ⟨of_decide_eq_false (by assumption), rfl, rfl⟩) (by first | exact .inl ⟨of_decide_eq_true (by assumption), by assumption, by first | assumption | rfl⟩ | exact .inr ⟨of_decide_eq_false (by assumption), rfl, rfl⟩) (by first | exact .inl ⟨of_decide_eq_true (by assumption), by assumption, by first | assumption | rfl⟩ | exact .inr ⟨of_decide_eq_false (by assumption), rfl, rfl⟩) hx])
end Go.Proofs.Ytcajncmjlmpkgaa

namespace Go.Proofs.Ytcajncmjlmpkgaa
open Go Go.RowKit
set_option maxRecDepth 100000
set_option linter.unusedSimpArgs false
set_option linter.unusedVariables false
def layAll (W : Int) : List Int → Int → List UInt8 → List UInt8
 | [], _, b => b
 | x :: xs, a, b => layAll W xs (a + W) (layN x a b W.toNat)
theorem layAll_snoc (W : Int) (x : Int) : ∀ (xs : List Int) (a : Int) (b : List UInt8), layAll W (xs ++ [x]) a b = layN x (a + W * xs.length) (layAll W xs a b) W.toNat
 | [], a, b => by simp [layAll]
 | y :: xs, a, b => by
   rw [List.cons_append, layAll, layAll_snoc W x xs, layAll]
   congr 1
   rw [List.length_cons]; push_cast; rw [Int.mul_add]; omega
theorem layAll_at {W : Int} (hW : 0 ≤ W) : ∀ (xs : List Int) {a : Int} {b : List UInt8}, At8 a b → At8 (a + W * xs.length) (layAll W xs a b)
 | [], a, b, h => by simpa [layAll] using h
 | y :: xs, a, b, h => by
   have h1 := layN_at (x := y) h W.toNat
   rw [show ((W.toNat : Nat) : Int) = W by omega] at h1
   have h2 := layAll_at hW xs h1
   have e : a + W * ((y :: xs).length : Int) = a + W + W * (xs.length : Int) := by
     rw [List.length_cons]; push_cast; rw [Int.mul_add]; omega
   rw [e]; exact h2
def bitsB (W : Int) (xs : List Int) : List UInt8 := layAll W xs 0 []
theorem bitsB_at {W : Int} (hW : 0 ≤ W) (xs : List Int) : At8 (W * xs.length) (bitsB W xs) := by
 have := layAll_at hW xs (a := 0) (b := []) ⟨Int.le_refl _, rfl⟩
 rw [Int.zero_add] at this; exact this
theorem bitsB_succ {W : Int} {α : Type} {f : α → Int} {l : List α} {i : Nat} {v : α} (h : l[i]? = some v) : bitsB W ((l.take (i + 1)).map f) = layN (f v) (W * i) (bitsB W ((l.take i).map f)) W.toNat := by
 have hi := (List.getElem?_eq_some_iff.1 h).1
 rw [List.take_add_one, h, Option.toList_some, List.map_append, List.map_singleton, bitsB, layAll_snoc, Int.zero_add, List.length_map, List.length_take, Nat.min_eq_left (by omega)]; rfl
theorem putCC {cc : FuncId → List AV → List AObj → (AV → List AObj → Prop) → Prop} (hcc : ACall Try.prog = cc) (i0 i1 : Nat) (hi : i0 ≠ i1) (x W a : Int) (hW : 0 ≤ W ∧ W ≤ 64) (g : Nat) (l : List UInt8) (h8 : At8 a l) (ha : a ≤ 1000000000) {L : List (List PV)} (hL : bl l = L) {n : Nat} (hn : L.length = n) {H : List AObj} {args : List AV} {K : AV → List AObj → Prop}
   (hargs : args = [.ref i0 0, .p (.int .u64 x), .p (.int .i64 W)]) (hH0 : nth H i0 = some (.cells [.vec i1 g 1 0 n, .p (.int .i64 a)])) (hH1 : nth H i1 = some (.vec g L 1))
   (k : ∀ g' L' n' a', bl (layN x a l W.toNat) = L' → L'.length = n' → a + W = a' → K (packV []) (setX (setX H i0 (.cells [.vec i1 g' 1 0 n', .p (.int .i64 a')])) i1 (.vec g' L' 1))) : cc 36 args H K := by
 subst hargs
 subst hcc
 refine (put_c x W a hW g l h8 ha L hL n hn).frame [i0, i1] (by simp [onceX, idxX, Ne.symm hi]) rfl ?_ rfl ?_
 · simp only [optL, hH0, hH1]; rfl
 rintro r H' ⟨rfl, g', hH'⟩
 show _ ∧ (takeX H' 2).length = 2 ∧ ltH 2 (takeX H' 2) = true ∧ K _ (backX [i0, i1] [i0, i1] (takeX H' 2) H)
 rw [hH']
 exact ⟨rfl, rfl, rfl, k _ _ _ _ rfl (by rw [List.length_map]) rfl⟩
end Go.Proofs.Ytcajncmjlmpkgaa

namespace Go.Proofs.Ytcajncmjlmpkgaa
open Go Go.RowKit
set_option maxRecDepth 100000
set_option linter.unusedSimpArgs false
set_option linter.unusedVariables false
def testO (op o : Int) : Bool := if op = 12 then decide (o = 0) else if op = 13 then !decide (o = 0) else if op = 14 then decide (o < 0) else if op = 15 then decide (o ≤ 0) else if op = 16 then decide (0 < o) else decide (0 ≤ o)
def testV (op : Int) (a b : Val) : Val :=
 if (clean a).k = 0 ∨ (clean b).k = 0 ∨ op < 12 ∨ 17 < op then Val.zero else flag (testO op (orderV (clean a) (clean b)))
theorem array6 {op z : Int} (h1 : ¬ op < 12) (h2 : ¬ 17 < op) (hz : IntKind.i64.wrap (op - 12) = z) {o : Int} {b1 b2 b3 b4 b5 b6 : Bool} (e1 : decide (o = 0) = b1) (e2 : (!decide (o = 0)) = b2) (e3 : decide (o < 0) = b3) (e4 : decide (o ≤ 0) = b4) (e5 : decide (0 < o) = b5) (e6 : decide (0 ≤ o) = b6)
   {K : AV → Prop} (k : K (.p (.bool (testO op o)))) : AIx [.p (.bool b1), .p (.bool b2), .p (.bool b3), .p (.bool b4), .p (.bool b5), .p (.bool b6)] 6 z K := by
 rw [wrap_in (by omega)] at hz
 refine AIx.at_ (.p (.bool (testO op o))) (by omega) (by omega) ?_ k
 have : op = 12 ∨ op = 13 ∨ op = 14 ∨ op = 15 ∨ op = 16 ∨ op = 17 := by omega
 rcases this with rfl | rfl | rfl | rfl | rfl | rfl <;> subst hz <;> subst e1 e2 e3 e4 e5 e6 <;> rfl
theorem test_c (op k n : Int) (s : ByteArray) (k' n' : Int) (s' : ByteArray) : PCall Try.prog 46 [.int .i64 op, .agg [.int .i64 k, .int .i64 n, .str s], .agg [.int .i64 k', .int .i64 n', .str s']] fun r => r = [(testV op ⟨k, n, s⟩ ⟨k', n', s'⟩).enc] := by
 have hop1 : decide (op < 12) = false → ¬ op < 12 := by simp
 have hop2 : decide (17 < op) = false → ¬ 17 < op := by simp
 refine PCall.x (nt := ⟨49, []⟩) (res := [.cell 6 24]) mixed tt_ok [] Try.func46 rfl rfl rfl c46 (Nat.le_of_ble_eq_true rfl) ?_
 intro cp cc lp Q' hcp hcc hlp hQ
 repeat' (first
   | (with_reducible refine Nm.mk ?_; intro z hz)
   | (with_reducible refine IfB.mk ?_ ?_ <;> (intro h; cases h))
   | (with_reducible refine Two.l ?_; refine Asm.mk ?_ ?_; focus (decide +kernel))
   | (with_reducible refine Two.r ?_)
   | (with_reducible refine TwoT.r ?_)
   | (with_reducible refine TwoU.r ?_)
   | (with_reducible refine Asm.mk ?_ ?_; focus kernel_rfl)
   | (with_reducible refine isCP hcp ?_; first | (refine vP hcp (clean_c k n s) ?_; intro v hv) | (refine vP hcp (clean_c k' n' s') ?_; intro v hv) | (refine iP hcp (order_c _ _ _ _ _ _) ?_; intro z hz) | (refine vP hcp (flag_c _) ?_; intro v hv))
   | (with_reducible refine isCC hcc ?_; first | (refine vA hcc (clean_c k n s) rfl ?_; intro v hv) | (refine vA hcc (clean_c k' n' s') rfl ?_; intro v hv) | (refine iA hcc (order_c _ _ _ _ _ _) rfl ?_; intro z hz) | (refine vA hcc (flag_c _) rfl ?_; intro v hv))
   | (with_reducible refine array6 (hop1 (by assumption)) (hop2 (by assumption)) (by assumption) (by assumption) (by assumption) (by assumption) (by assumption) (by assumption) (by assumption) ?_)
   | (with_reducible refine Asm.mk2 ?_ ?_)
   | ((fail_if_success (with_reducible first | refine hQ _ ?_ | refine Side.mk ?_ | refine isCP hcp ?_ | refine isCC hcc ?_ | refine isLP hlp ?_ | refine Ix.mk ?_ | refine SIx.mk ?_ | refine SEx.mk ?_ | refine EIx.mk ?_ | refine RIx.mk ?_ | refine LkX.mk ?_ | show False | refine hR ?_ _ ?_ ?_ ?_ ?_ ?_ | refine hR2 ?_ _ ?_ ?_ ?_ ?_ ?_)); cbv))
 all_goals (refine hQ _ ?_; clear hQ hcp hcc hlp)
 · have h : testV op ⟨k, n, s⟩ ⟨k', n', s'⟩ = Val.zero := by unfold testV; rw [if_pos]; simp_all
   rw [h]; rfl
 · have h : testV op ⟨k, n, s⟩ ⟨k', n', s'⟩ = Val.zero := by unfold testV; rw [if_pos]; simp_all
   rw [h]; rfl
 · have h : testV op ⟨k, n, s⟩ ⟨k', n', s'⟩ = Val.zero := by unfold testV; rw [if_pos]; simp_all
   rw [h]; rfl
 · have h : testV op ⟨k, n, s⟩ ⟨k', n', s'⟩ = Val.zero := by unfold testV; rw [if_pos]; simp_all
   rw [h]; rfl
 · have h : testV op ⟨k, n, s⟩ ⟨k', n', s'⟩ = v := by
     unfold testV; rw [if_neg (by clear hv; simp_all), ← hv]; unfold testO; clear hv; subst_vars; rfl
   rw [h]; rfl
def trueV (v : Val) : Bool := decide (v.k = 1) && !decide (v.n = 0)
theorem true_c (k n : Int) (s : ByteArray) : PCall Try.prog 45 [.agg [.int .i64 k, .int .i64 n, .str s]] fun r => r = [.bool (trueV ⟨k, n, s⟩)] := by
 refine PCall.x (nt := ⟨11, []⟩) (res := [.tmp 2]) mixed tt_ok [] Try.func45 rfl rfl rfl c45 (Nat.le_of_ble_eq_true rfl) ?_
 intro cp cc lp Q' hcp hcc hlp hQ
 repeat' (first
   | (with_reducible refine Nm.mk ?_; intro z hz)
   | (with_reducible refine IfB.mk ?_ ?_ <;> (intro h; cases h))
   | (with_reducible refine Two.l ?_; refine Asm.mk ?_ ?_; focus (decide +kernel))
   | (with_reducible refine Two.r ?_)
   | (with_reducible refine TwoT.r ?_)
   | (with_reducible refine TwoU.r ?_)
   | (with_reducible refine Asm.mk ?_ ?_; focus (first | kernel_rfl | decide))
   | (with_reducible refine Asm.mk2 ?_ ?_)
   | ((fail_if_success (with_reducible first | refine hQ _ ?_ | refine Side.mk ?_ | refine isCP hcp ?_ | refine isCC hcc ?_ | refine isLP hlp ?_ | refine Ix.mk ?_ | refine SIx.mk ?_ | refine SEx.mk ?_ | refine EIx.mk ?_ | refine RIx.mk ?_ | refine LkX.mk ?_ | show False | refine hR ?_ _ ?_ ?_ ?_ ?_ ?_ | refine hR2 ?_ _ ?_ ?_ ?_ ?_ ?_)); cbv))
 all_goals (refine hQ _ ?_; clear hQ hcp hcc hlp; subst_vars; simp_all [trueV])
end Go.Proofs.Ytcajncmjlmpkgaa
