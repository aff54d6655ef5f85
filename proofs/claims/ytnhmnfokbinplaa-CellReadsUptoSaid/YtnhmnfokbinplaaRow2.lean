/- rows' keys: a number as eight bytes. Own work; no condition. -/
import Derived.Test.YtnhmnfokbinplaaRow1
import Derived.Test.YtnhmnfokbinplaaAbs25
namespace Go.Proofs.Ytnhmnfokbinplaa
open Go Go.RowKit
set_option maxRecDepth 100000
set_option linter.unusedSimpArgs false
set_option linter.unusedVariables false

theorem wrap_8 (n : Int) : IntKind.u8.wrap n = n % 256 := by
  simp [IntKind.wrap, IntKind.bits, IntKind.signed]
def byteAt (n : Int) (k : Nat) : UInt8 := UInt8.ofNat (n.toNat / 2 ^ (8 * k))
theorem byteAt_toNat (n : Int) (k : Nat) : (byteAt n k).toNat = n.toNat / 2 ^ (8 * k) % 256 := by simp [byteAt]
def byteC (b : UInt8) : List PV := [.int .u8 b.toNat]
def upB (n : Int) (i : Int) : List (List PV) := (List.range (7 - i).toNat).map fun j => byteC (byteAt n (7 - j))
def bytesN (n : Int) : List UInt8 := (List.range 8).map fun j => byteAt n (7 - j)
theorem upB_len (n i : Int) : (upB n i).length = (7 - i).toNat := by simp [upB]
theorem upB_succ {n i : Int} (h : 0 ≤ i) (h7 : i ≤ 7) : upB n (i - 1) = upB n i ++ [byteC (byteAt n i.toNat)] := by
  rw [upB, upB, show (7 - (i - 1)).toNat = (7 - i).toNat + 1 by omega, List.range_succ, List.map_append]
  simp only [List.map_cons, List.map_nil]
  rw [show 7 - (7 - i).toNat = i.toNat by omega]
theorem upB_u8 (n i : Int) : isU8s (upB n i) = true := by
  simp [isU8s, upB, byteC, byteOf]
theorem upB_str (n : Int) : byts (strOf (upB n (-1))) = bytesN n := by
  simp [byts, strOf, upB, bytesN, byteC, byteOf, Function.comp_def]
theorem byte_eq {n i : Int} (hn : 0 ≤ n) (hi : 0 ≤ i) (h7 : i ≤ 7) {z3 z2 z1 : Int} (h3 : IntKind.i64.wrap (8 * i) = z3) (h2 : n.fdiv (2 ^ min z3.toNat IntKind.u64.bits) = z2) (h1 : IntKind.u8.wrap z2 = z1) : [PV.int .u8 z1] = byteC (byteAt n i.toNat) := by
  rw [wrap_in (by omega)] at h3
  subst h3
  have hm : min (8 * i).toNat IntKind.u64.bits = 8 * i.toNat := by
    show min (8 * i).toNat 64 = _
    omega
  rw [hm] at h2
  rw [byteC, byteAt_toNat, ← h1, wrap_8, ← h2]
  obtain ⟨m, rfl⟩ := Int.eq_ofNat_of_zero_le hn
  rw [Int.fdiv_eq_ediv_of_nonneg _ (Int.le_of_lt (Int.pow_pos (by decide)))]
  simp

theorem bytes_c (n : Int) (hn : 0 ≤ n) : PCall Try.prog 152 [.int .u64 n, .int .i64 8] fun r => r = [.str (strOf (upB n (-1)))] := by
  refine PCall.x (nt := 23) (res := [.tmp 4]) mixed tt_ok [] Try.func152 rfl rfl rfl c152 (Nat.le_of_ble_eq_true rfl) ?_
  intro cp cc lp Q' hcp hcc hlp hQ
  repeat' (first
    | (with_reducible refine Nm.mk ?_; intro z hz)
    | (with_reducible refine IfB.mk ?_ ?_ <;> (intro h; cases h))
    | (with_reducible refine Asm.mk ?_ ?_; focus (show (_ : Bool) = true; kernel_rfl))
    | (with_reducible refine Asm.mk2 ?_ ?_)
    | ((fail_if_success (with_reducible refine hQ _ ?_)); (fail_if_success (with_reducible refine Side.mk ?_)); (fail_if_success (with_reducible refine isCP hcp ?_)); (fail_if_success (with_reducible refine isCC hcc ?_)); (fail_if_success (with_reducible refine isLP hlp ?_)); (fail_if_success (with_reducible refine Ix.mk ?_)); (fail_if_success (with_reducible refine SIx.mk ?_)); (fail_if_success (with_reducible refine SEx.mk ?_)); (fail_if_success (with_reducible refine EIx.mk ?_)); (fail_if_success (with_reducible refine RIx.mk ?_)); (fail_if_success (with_reducible show False)); (fail_if_success (with_reducible refine hR ?_ _ ?_ ?_ ?_ ?_ ?_)); (fail_if_success (with_reducible refine hR2 ?_ _ ?_ ?_ ?_ ?_ ?_)); cbv))
  have hz7 : z = 7 := by rw [← hz]; decide
  clear hz
  subst hz7
  refine mintT hlp 1 5 rfl ?_
  refine loopT (ι := Int × List (List PV) × Nat) mixed tt_ok hcp hcc hlp [0] (fun p => [(5, .tok 0 p.2.1), (6, .p (.int .i64 p.1))]) (fun p => [.spare p.2.2 1]) (fun p => -1 ≤ p.1 ∧ p.1 ≤ 7 ∧ p.2.1.length = p.2.2 ∧ upB n p.1 = p.2.1) (fun p => (p.1 + 1).toNat) (7, [], 0) 1 (fun _ => rfl) ⟨by omega, by omega, rfl, rfl⟩ ⟨rfl, rfl, trivial⟩ rfl ?_
  rintro R ⟨i, L, m⟩ ⟨hi0, hi1, hm, hL⟩ hR
  replace hi0 : -1 ≤ i := hi0
  replace hi1 : i ≤ 7 := hi1
  replace hm : L.length = m := hm
  replace hL : upB n i = L := hL
  have hok : okEs 1 L = true := by rw [← hL]; exact List.all_eq_true.2 fun e he => by obtain ⟨c, _, rfl⟩ := List.mem_map.1 he; rfl
  have hu : isU8s L = true := by rw [← hL]; exact upB_u8 n i
  have hll : L.length ≤ 8 := by rw [← hL, upB_len]; omega
  have hng : ∀ w : Int, IntKind.i64.wrap (8 * i) = w → decide (0 ≤ i) = true → ¬ w < 0 := by
    intro w h h0
    simp only [decide_eq_true_eq] at h0
    rw [wrap_in (by omega)] at h
    omega
  repeat' (first
    | (with_reducible refine Nm.mk ?_; intro z hz)
    | (with_reducible refine IfB.mk ?_ ?_ <;> (intro h; cases h))
    | (with_reducible refine Asm.mk ?_ ?_; focus (first | exact hng _ (by assumption) (by assumption) | exact hu | (refine ⟨hm.symm, rfl, hok, rfl, ?_, ?_⟩ <;> (clear hR hQ hng; simp only [List.length_cons, List.length_nil, maxLen]; omega)) | (show (_ : Bool) = true; kernel_rfl)))
    | (with_reducible refine Asm.mk2 ?_ ?_)
    | ((fail_if_success (with_reducible refine hQ _ ?_)); (fail_if_success (with_reducible refine Side.mk ?_)); (fail_if_success (with_reducible refine isCP hcp ?_)); (fail_if_success (with_reducible refine isCC hcc ?_)); (fail_if_success (with_reducible refine isLP hlp ?_)); (fail_if_success (with_reducible refine Ix.mk ?_)); (fail_if_success (with_reducible refine SIx.mk ?_)); (fail_if_success (with_reducible refine SEx.mk ?_)); (fail_if_success (with_reducible refine EIx.mk ?_)); (fail_if_success (with_reducible refine RIx.mk ?_)); (fail_if_success (with_reducible show False)); (fail_if_success (with_reducible refine hR ?_ _ ?_ ?_ ?_ ?_ ?_)); (fail_if_success (with_reducible refine hR2 ?_ _ ?_ ?_ ?_ ?_ ?_)); cbv))
  · rename_i z3 h3 z2 h2 z1 h1 L2 hL2 m2 hm2
    have h0 : decide (0 ≤ i) = true := by assumption
    simp only [decide_eq_true_eq] at h0
    have hb := byte_eq hn h0 hi1 h3 h2 h1
    rw [wrap_in (by omega)] at hz
    subst hz
    refine hR (i - 1, L2, m2) _ ⟨by show -1 ≤ i - 1; omega, by show i - 1 ≤ 7; omega, by show L2.length = m2; rw [← hL2, ← hm2, List.length_append], ?_⟩ (by show (i - 1 + 1).toNat < (i + 1).toNat; omega) ⟨rfl, rfl, trivial⟩ ⟨rfl, trivial⟩ rfl
    show upB n (i - 1) = L2
    rw [upB_succ h0 hi1, hL, ← hL2, hb]
  · have h0 : decide (0 ≤ i) = false := by assumption
    simp only [decide_eq_false_iff_not] at h0
    refine hQ _ ?_
    rw [← hz, ← hL, show i = -1 by omega]

/-! ### eight bytes and their number -/
def valL (l : List UInt8) : Int := l.foldl (fun n b => n * 256 + b.toNat) 0
theorem stepN_eq {n : Int} (h0 : 0 ≤ n) (h : n < 72057594037927936) (b : UInt8) : stepN n b = n * 256 + b.toNat := by
  obtain ⟨m, rfl⟩ := Int.eq_ofNat_of_zero_le h0
  have hb := b.toNat_lt
  have hw : IntKind.u64.wrap ((m : Int) * 2 ^ min (Int.toNat 8) IntKind.u64.bits) = ((m * 256 : Nat) : Int) := by
    show IntKind.u64.wrap ((m : Int) * 256) = _
    simp [IntKind.wrap, IntKind.bits, IntKind.signed]
    omega
  have hw2 : IntKind.u64.wrap (b.toNat : Int) = ((b.toNat : Nat) : Int) := by
    simp [IntKind.wrap, IntKind.bits, IntKind.signed]
    omega
  rw [stepN, hw, hw2]
  have e : (BitVec.ofInt IntKind.u64.bits ((m * 256 : Nat) : Int) ||| BitVec.ofInt IntKind.u64.bits ((b.toNat : Nat) : Int)).toNat = m * 256 + b.toNat := by
    show (BitVec.ofInt 64 ((m * 256 : Nat) : Int) ||| BitVec.ofInt 64 ((b.toNat : Nat) : Int)).toNat = m * 256 + b.toNat
    rw [BitVec.toNat_or, BitVec.ofInt_natCast, BitVec.ofInt_natCast, BitVec.toNat_ofNat, BitVec.toNat_ofNat, Nat.mod_eq_of_lt (by omega), Nat.mod_eq_of_lt (by omega)]
    have := Nat.shiftLeft_add_eq_or_of_lt (i := 8) (b := b.toNat) (by omega) m
    rw [Nat.shiftLeft_eq, show (2 : Nat) ^ 8 = 256 from rfl] at this
    omega
  rw [e]
  simp [IntKind.wrap, IntKind.bits, IntKind.signed]
  omega
theorem numL_8 {l : List UInt8} (h : l.length = 8) : 0 ≤ numL l ∧ numL l < 18446744073709551616 ∧ bytesN (numL l) = l := by
  match l, h with
  | [b0, b1, b2, b3, b4, b5, b6, b7], _ =>
    have h0 := b0.toNat_lt
    have h1 := b1.toNat_lt
    have h2 := b2.toNat_lt
    have h3 := b3.toNat_lt
    have h4 := b4.toNat_lt
    have h5 := b5.toNat_lt
    have h6 := b6.toNat_lt
    have h7 := b7.toNat_lt
    have e : numL [b0, b1, b2, b3, b4, b5, b6, b7] = (((((((b0.toNat : Int) * 256 + b1.toNat) * 256 + b2.toNat) * 256 + b3.toNat) * 256 + b4.toNat) * 256 + b5.toNat) * 256 + b6.toNat) * 256 + b7.toNat := by
      simp only [numL, List.foldl_cons, List.foldl_nil]
      rw [stepN_eq (by omega) (by omega) b0, stepN_eq (by omega) (by omega) b1, stepN_eq (by omega) (by omega) b2, stepN_eq (by omega) (by omega) b3, stepN_eq (by omega) (by omega) b4, stepN_eq (by omega) (by omega) b5, stepN_eq (by omega) (by omega) b6, stepN_eq (by omega) (by omega) b7]
      omega
    rw [e]
    refine ⟨by omega, by omega, ?_⟩
    have key : ∀ (k : Nat) (b : UInt8) (n : Int), n.toNat / 2 ^ (8 * k) % 256 = b.toNat → byteAt n k = b := fun k b n h => UInt8.toNat_inj.1 (by rw [byteAt_toNat, h])
    simp only [bytesN, List.range, List.range.loop, List.map_cons, List.map_nil, List.cons.injEq, and_true]
    refine ⟨key _ _ _ ?_, key _ _ _ ?_, key _ _ _ ?_, key _ _ _ ?_, key _ _ _ ?_, key _ _ _ ?_, key _ _ _ ?_, key _ _ _ ?_⟩ <;> (simp only [Nat.reduceSub, Nat.reduceMul, Nat.reducePow]; omega)
end Go.Proofs.Ytnhmnfokbinplaa
