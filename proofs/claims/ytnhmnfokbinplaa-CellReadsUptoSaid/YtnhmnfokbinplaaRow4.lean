/- rows' keys: what a text is read as. Own work; no condition. -/
import Derived.Test.YtnhmnfokbinplaaRow3
namespace Go.Proofs.Ytnhmnfokbinplaa
open Go Go.RowKit
set_option maxRecDepth 100000
set_option linter.unusedSimpArgs false
set_option linter.unusedVariables false

def textM : List UInt8 → Option (List UInt8 × List UInt8)
  | [] => none
  | [_] => none
  | b :: c :: r => if b = 0 then (if c = 1 then some ([], r) else if c = 255 then (textM r).map fun p => (0 :: p.1, p.2) else none) else (textM (c :: r)).map fun p => (b :: p.1, p.2)
def backN (n : Int) : Int := IntKind.i64.wrap (IntKind.u64.wrap ((BitVec.ofInt IntKind.u64.bits n ^^^ BitVec.ofInt IntKind.u64.bits 9223372036854775808).toNat : Int))
def stepM : List UInt8 → Option (Val × List UInt8)
  | [] => none
  | t :: r => if t = 1 then some (Val.zero, r)
    else if t = 2 then (if r.length < 8 then none else some (⟨1, backN (numL (r.take 8)), ⟨#[]⟩⟩, r.drop 8))
    else if t = 3 then (textM r).map fun p => (⟨2, 0, toB p.1⟩, p.2) else none
def rowF : Nat → List UInt8 → Option (List Val)
  | _, [] => some []
  | 0, _ :: _ => none
  | f + 1, b :: l => match stepM (b :: l) with
    | none => none
    | some (v, r) => (rowF f r).map (v :: ·)
def rowM (l : List UInt8) : Option (List Val) := rowF l.length l
theorem textM_len : ∀ {l t r : List UInt8}, textM l = some (t, r) → r.length + t.length + 2 ≤ l.length
  | [], t, r, h => by simp [textM] at h
  | [_], t, r, h => by simp [textM] at h
  | b :: c :: l, t, r, h => by
    rw [textM] at h
    split at h
    · split at h
      · simp only [Option.some.injEq, Prod.mk.injEq] at h
        obtain ⟨rfl, rfl⟩ := h
        simp
      · split at h
        · rw [Option.map_eq_some_iff] at h
          obtain ⟨⟨t', r'⟩, h1, h2⟩ := h
          simp only [Prod.mk.injEq] at h2
          obtain ⟨rfl, rfl⟩ := h2
          have := textM_len h1
          simp only [List.length_cons]; omega
        · simp at h
    · rw [Option.map_eq_some_iff] at h
      obtain ⟨⟨t', r'⟩, h1, h2⟩ := h
      simp only [Prod.mk.injEq] at h2
      obtain ⟨rfl, rfl⟩ := h2
      have := textM_len h1
      simp only [List.length_cons] at *; omega
theorem stepM_len {l r : List UInt8} {v : Val} (h : stepM l = some (v, r)) : r.length < l.length ∧ v.s.size + r.length ≤ l.length := by
  cases l with
  | nil => simp [stepM] at h
  | cons t l =>
    rw [stepM] at h
    split at h
    · simp only [Option.some.injEq, Prod.mk.injEq] at h
      obtain ⟨rfl, rfl⟩ := h
      exact ⟨by simp, by show 0 + l.length ≤ (t :: l).length; simp⟩
    · split at h
      · split at h
        · simp at h
        · simp only [Option.some.injEq, Prod.mk.injEq] at h
          obtain ⟨rfl, rfl⟩ := h
          exact ⟨by simp; omega, by show 0 + (l.drop 8).length ≤ (t :: l).length; simp; omega⟩
      · split at h
        · rw [Option.map_eq_some_iff] at h
          obtain ⟨⟨t', r'⟩, h1, h2⟩ := h
          simp only [Prod.mk.injEq] at h2
          obtain ⟨rfl, rfl⟩ := h2
          have := textM_len h1
          have e : (toB t').size = t'.length := by rw [← byts_len, byts_toB]
          simp only [List.length_cons, e]; omega
        · simp at h
theorem rowF_step {f : Nat} {l r : List UInt8} {v : Val} (h : stepM l = some (v, r)) : rowF (f + 1) l = (rowF f r).map (v :: ·) := by
  cases l with
  | nil => simp [stepM] at h
  | cons t l => rw [rowF, h]
theorem rowF_none {f : Nat} {l : List UInt8} (hl : l ≠ []) (h : stepM l = none) : rowF (f + 1) l = none := by
  cases l with
  | nil => exact absurd rfl hl
  | cons t l => rw [rowF, h]

theorem textM_esc : ∀ (a rest : List UInt8), textM (escL a ++ rest) = (textM rest).map fun p => (a ++ p.1, p.2)
  | [], rest => by
    show textM rest = _
    cases textM rest <;> rfl
  | b :: a, rest => by
    have ih := textM_esc a rest
    by_cases hb : b = 0
    · subst hb
      have : escL (0 :: a) ++ rest = 0 :: 255 :: (escL a ++ rest) := by simp [escL]
      rw [this, textM, if_pos rfl, if_neg (by decide), if_pos rfl, ih]
      cases textM rest <;> rfl
    · have : escL (b :: a) ++ rest = b :: (escL a ++ rest) := by simp [escL, hb]
      rw [this]
      cases hx : escL a ++ rest with
      | nil =>
        rw [hx] at ih
        have hr : rest = [] := (List.append_eq_nil_iff.1 hx).2
        subst hr
        rfl
      | cons c r =>
        rw [textM, if_neg hb, ← hx, ih]
        cases textM rest <;> rfl
/-- What begins with a key. -/
def pre (l kl : List UInt8) : Prop := l.take kl.length = kl
theorem step_z {b : UInt8} {l : List UInt8} (h2 : ¬ b = 2) (h3 : ¬ b = 3) : (pre (b :: l) [1] → stepM (b :: l) = some (Val.zero, (b :: l).drop 1)) ∧ (¬ pre (b :: l) [1] → stepM (b :: l) = none) := by
  refine ⟨fun h => ?_, fun h => ?_⟩
  · simp [pre] at h
    subst h
    rfl
  · have h1 : ¬ b = 1 := fun e => h (by subst e; simp [pre])
    rw [stepM, if_neg h1, if_neg h2, if_neg h3]
theorem step_n0 {l : List UInt8} (h : l.length < 8) : stepM (2 :: l) = none := by
  rw [stepM, if_neg (by decide), if_pos rfl, if_pos h]
theorem flip_back {m : Int} (h0 : 0 ≤ m) (h1 : m < 18446744073709551616) : flipN (backN m) = m := by
  have w0 : ∀ n : Int, IntKind.u64.wrap n = n % 18446744073709551616 := fun n => by simp [IntKind.wrap, IntKind.bits, IntKind.signed]
  have e1 : ∀ y : BitVec 64, IntKind.u64.wrap (y.toNat : Int) = y.toNat := fun y => by rw [w0]; have := y.isLt; omega
  have e2 : ∀ y : BitVec 64, IntKind.u64.wrap (IntKind.i64.wrap (y.toNat : Int)) = y.toNat := fun y => by rw [w0, IntKind.wrap_i64]; have := y.isLt; omega
  have e3 : ∀ y : BitVec 64, BitVec.ofInt 64 (y.toNat : Int) = y := fun y => by rw [BitVec.ofInt_natCast]; simp
  rw [flipN, backN]
  show IntKind.u64.wrap ((BitVec.ofInt 64 (IntKind.u64.wrap (IntKind.i64.wrap (IntKind.u64.wrap ((BitVec.ofInt 64 m ^^^ BitVec.ofInt 64 9223372036854775808).toNat : Int)))) ^^^ BitVec.ofInt 64 9223372036854775808).toNat : Int) = m
  rw [e1, e1 (BitVec.ofInt 64 m ^^^ _), e2, e3, BitVec.xor_assoc, BitVec.xor_self, BitVec.xor_zero]
  obtain ⟨k, rfl⟩ := Int.eq_ofNat_of_zero_le h0
  rw [BitVec.ofInt_natCast, BitVec.toNat_ofNat]
  omega
theorem step_n {l : List UInt8} (h : ¬ l.length < 8) : ∃ n, backN (numL (l.take 8)) = n ∧ pre (2 :: l) (2 :: bytesN (flipN n)) ∧ stepM (2 :: l) = some (num n, (2 :: l).drop (2 :: bytesN (flipN n)).length) := by
  refine ⟨_, rfl, ?_⟩
  have h8 : (l.take 8).length = 8 := by rw [List.length_take]; omega
  obtain ⟨e1, e2, e3⟩ := numL_8 h8
  rw [flip_back e1 e2, e3, List.length_cons, h8]
  refine ⟨?_, ?_⟩
  · rw [pre, List.length_cons, h8]; rfl
  · rw [stepM, if_neg (by decide), if_pos rfl, if_neg h]; rfl
theorem step_s0 {a rest : List UInt8} (h : textM rest = none) : stepM (3 :: (escL a ++ rest)) = none := by
  rw [stepM, if_neg (by decide), if_neg (by decide), if_pos rfl, textM_esc, h]; rfl
theorem step_s {t : ByteArray} {a tl : List UInt8} (ht : byts t = a) (h : tl.head? ≠ some 255) : (pre (3 :: (escL a ++ 0 :: tl)) (3 :: (escL a ++ [0, 1])) → stepM (3 :: (escL a ++ 0 :: tl)) = some (str t, (3 :: (escL a ++ 0 :: tl)).drop (3 :: (escL a ++ [0, 1])).length)) ∧ (¬ pre (3 :: (escL a ++ 0 :: tl)) (3 :: (escL a ++ [0, 1])) → stepM (3 :: (escL a ++ 0 :: tl)) = none) := by
  have hp : pre (3 :: (escL a ++ 0 :: tl)) (3 :: (escL a ++ [0, 1])) ↔ tl.take 1 = [1] := by
    rw [pre]
    simp only [List.length_cons, List.length_append, List.length_nil, List.take_succ_cons, List.cons.injEq, true_and]
    rw [List.take_append, List.take_of_length_le (by omega), show (escL a).length + (0 + 1 + 1) - (escL a).length = 2 by omega, List.append_cancel_left_eq, List.take_succ_cons, List.cons.injEq]
    simp
  rw [hp]
  refine ⟨fun h1 => ?_, fun h1 => ?_⟩
  · cases tl with
    | nil => simp at h1
    | cons c r =>
      simp at h1
      subst h1
      rw [stepM, if_neg (by decide), if_neg (by decide), if_pos rfl, textM_esc, textM, if_pos rfl, if_pos rfl]
      simp [str, toB_of ht, List.drop_append]
  · refine step_s0 ?_
    cases tl with
    | nil => rfl
    | cons c r =>
      simp at h1 h
      rw [textM, if_pos rfl, if_neg h1, if_neg h]
/-- The comparison of a text's beginning with a key. -/
theorem cmp_1 {s key : ByteArray} {l : List UInt8} (hl : byts s = l) {z1 z2 : Int} (h1 : (s.size : Int) = z1) (h2 : (key.size : Int) = z2) (h : decide (z1 < z2) = true) : ¬ pre l (byts key) := by
  simp only [decide_eq_true_eq] at h
  intro hp
  have := congrArg List.length hp
  rw [List.length_take, ← hl, byts_len, byts_len] at this
  omega
theorem cmp_2 {s key y : ByteArray} {l : List UInt8} (hl : byts s = l) {z2 : Int} (h2 : (key.size : Int) = z2) (h3 : s.extract 0 z2.toNat = y) (h : (!sbeq y key) = true) : ¬ pre l (byts key) := by
  intro hp
  have : y = key := by
    rw [toB_of (rfl : byts y = byts y), ← toB_byts key, ← h3, byts_ext, hl, ← h2, show ((key.size : Nat) : Int).toNat = key.size by omega, ← byts_len, List.drop_zero, hp]
  rw [this, sbeq_eq] at h
  simp at h
theorem cmp_3 {s key y x : ByteArray} {l : List UInt8} (hl : byts s = l) {z2 : Int} (h2 : (key.size : Int) = z2) (h3 : s.extract 0 z2.toNat = y) (h : (!sbeq y key) = false) (h4 : s.extract z2.toNat s.size = x) : pre l (byts key) ∧ byts x = l.drop (byts key).length := by
  have e : y = key := by
    rw [sbeq_eq] at h; simpa using h
  have ez : z2.toNat = (byts key).length := by rw [byts_len]; omega
  refine ⟨?_, ?_⟩
  · rw [pre, ← ez, ← e, ← h3, byts_ext, hl, List.drop_zero]
  · rw [← h4, byts_ext, hl, ez, List.take_of_length_le (by rw [← hl, byts_len]; exact Nat.le_refl _)]
end Go.Proofs.Ytnhmnfokbinplaa
