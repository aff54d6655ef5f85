/- tallyref: numbers as lists of digits: made, trimmed, a digit. Own work; no condition. -/
import Derived.Test.YtnhmnfokbinplaaLg2
import Derived.Test.YtnhmnfokbinplaaReck1
import Derived.Test.YtnhmnfokbinplaaFit
import Derived.Test.YtnhmnfokbinplaaAbs26
namespace Go.Proofs.Ytnhmnfokbinplaa
open Go Go.RowKit
set_option maxRecDepth 100000
set_option linter.unusedSimpArgs false
set_option linter.unusedVariables false

def u32c (x : Int) : List PV := [.int .u32 x]
theorem u32c_len (x : Int) : (u32c x).length = 1 := rfl
theorem ok_u32 (l : List Int) : okEs 1 (l.map u32c) = true := by
  simp only [okEs, List.all_map, List.all_eq_true]; intro e _; rfl
theorem takeL {α : Type} {l : List α} {i : Nat} {x : α} (h : l[i]? = some x) : l.take (i + 1) = l.take i ++ [x] := by rw [List.take_add_one, h]; rfl
/-- A number's parts. -/
def longD (z : Int) : List (List PV) := (dig (uabs z)).map u32c
def longZ (z : Int) : List PV := [.bool (decide (z < 0)), .sl (longD z)]
def sgn (m : Bool) (v : Int) : Int := if m = true then -v else v

theorem and16u (a : Int) (h : 0 ≤ a ∧ a < 18446744073709551616) : IntKind.u64.wrap ((BitVec.ofInt IntKind.u64.bits a &&& BitVec.ofInt IntKind.u64.bits 65535).toNat : Int) = a % 65536 := by
  obtain ⟨n, rfl⟩ := Int.eq_ofNat_of_zero_le h.1
  have e : (BitVec.ofInt IntKind.u64.bits (n : Int) &&& BitVec.ofInt IntKind.u64.bits 65535).toNat = n % 65536 := by
    have hb : IntKind.u64.bits = 64 := rfl
    rw [hb]
    have hn : n < 2 ^ 64 := by omega
    rw [BitVec.toNat_and]
    have e1 : (BitVec.ofInt 64 (n : Int)).toNat = n := by simp [BitVec.toNat_ofInt]; omega
    have e2 : (BitVec.ofInt 64 65535).toNat = 2 ^ 16 - 1 := by decide
    rw [e1, e2, Nat.and_two_pow_sub_one_eq_mod]
  rw [e, wrap_u]
  omega
theorem and16v (a : Int) (h : 0 ≤ a ∧ a < 4294967296) : IntKind.u32.wrap ((BitVec.ofInt IntKind.u32.bits a &&& BitVec.ofInt IntKind.u32.bits 65535).toNat : Int) = a % 65536 := by
  obtain ⟨n, rfl⟩ := Int.eq_ofNat_of_zero_le h.1
  have e : (BitVec.ofInt IntKind.u32.bits (n : Int) &&& BitVec.ofInt IntKind.u32.bits 65535).toNat = n % 65536 := by
    have hb : IntKind.u32.bits = 32 := rfl
    rw [hb]
    have hn : n < 2 ^ 32 := by omega
    rw [BitVec.toNat_and]
    have e1 : (BitVec.ofInt 32 (n : Int)).toNat = n := by simp [BitVec.toNat_ofInt]; omega
    have e2 : (BitVec.ofInt 32 65535).toNat = 2 ^ 16 - 1 := by decide
    rw [e1, e2, Nat.and_two_pow_sub_one_eq_mod]
  rw [e, IntWalk.u32_in _ (by omega)]
  omega
theorem shr16u (a : Int) : a.fdiv (2 ^ (min (16 : Int).toNat IntKind.u64.bits)) = a / 65536 := by
  have : (2 : Int) ^ (min (16 : Int).toNat IntKind.u64.bits) = 65536 := by decide
  rw [this, Int.fdiv_eq_ediv_of_nonneg _ (by decide)]
theorem shr16v (a : Int) : a.fdiv (2 ^ (min (16 : Int).toNat IntKind.u32.bits)) = a / 65536 := by
  have : (2 : Int) ^ (min (16 : Int).toNat IntKind.u32.bits) = 65536 := by decide
  rw [this, Int.fdiv_eq_ediv_of_nonneg _ (by decide)]

theorem digit_c (m : Bool) (d : List Int) (L : List (List PV)) (hL : d.map u32c = L) (i : Int) (h0 : 0 ≤ i) : PCall Try.prog 156 [.agg [.bool m, .sl L], .int .i64 i] fun r => r = [.int .u32 ((d[i.toNat]?).getD 0)] := by
  have hl : L.length = d.length := by rw [← hL]; simp
  have hk : ∀ z : Int, (L.length : Int) = z → decide (i < z) = true → i < d.length := by intro z h g; simp only [decide_eq_true_eq] at g; omega
  have hn : ∀ z : Int, (L.length : Int) = z → decide (i < z) = false → (d[i.toNat]?).getD 0 = 0 := by
    intro z h g; simp only [decide_eq_false_iff_not] at g; rw [List.getElem?_eq_none (by omega)]; rfl
  refine PCall.x (nt := 15) (res := [.tmp 4]) mixed tt_ok [] Try.func156 rfl rfl rfl c156 (Nat.le_of_ble_eq_true rfl) ?_
  intro cp cc lp Q' hcp hcc hlp hQ
  repeat' (first
    | (with_reducible refine Nm.mk ?_; intro z hz)
    | (with_reducible refine IfB.mk ?_ ?_ <;> (intro h; cases h))
    | (with_reducible refine Asm.mk ?_ ?_; focus kernel_rfl)
    | (with_reducible refine Ix.map hL u32c_len (by decide) h0 (hk _ (by assumption) (by assumption)) ?_; intro x hx)
    | (with_reducible refine Asm.mk2 ?_ ?_)
    | ((fail_if_success (with_reducible refine hQ _ ?_)); (fail_if_success (with_reducible refine Side.mk ?_)); (fail_if_success (with_reducible refine isCP hcp ?_)); (fail_if_success (with_reducible refine isCC hcc ?_)); (fail_if_success (with_reducible refine isLP hlp ?_)); (fail_if_success (with_reducible refine Ix.mk ?_)); (fail_if_success (with_reducible refine SIx.mk ?_)); (fail_if_success (with_reducible refine SEx.mk ?_)); (fail_if_success (with_reducible refine EIx.mk ?_)); (fail_if_success (with_reducible show False)); (fail_if_success (with_reducible refine hR ?_ _ ?_ ?_ ?_ ?_ ?_)); (fail_if_success (with_reducible refine hR2 ?_ _ ?_ ?_ ?_ ?_ ?_)); cbv))
  · refine hQ _ ?_
    rw [hx]; rfl
  · refine hQ _ ?_
    rw [hn _ (by assumption) (by assumption)]

theorem dig4 {u : Int} (h : u < 18446744073709551616) : (dig u).length ≤ 4 := dig_len 4 u (by omega)
structure OfOk (n u : Int) (L : List (List PV)) (m : Nat) : Prop where
  u0 : 0 ≤ u
  u1 : u < 18446744073709551616
  eq : L ++ (dig u).map u32c = longD n
  ok : okEs 1 L = true
  len : L.length = m
theorem OfOk.len4 {n u : Int} {L : List (List PV)} {m : Nat} (h : OfOk n u L m) (hn : -9223372036854775808 ≤ n ∧ n ≤ 9223372036854775807) : L.length + (dig u).length ≤ 4 := by
  have e := congrArg List.length h.eq
  simp only [List.length_append, List.length_map, longD] at e
  have := dig4 (u := uabs n) (by have := uabs_le hn; omega)
  omega

set_option maxHeartbeats 1000000 in
theorem longOf_c (n : Int) (hn : -9223372036854775808 ≤ n ∧ n ≤ 9223372036854775807) : PCall Try.prog 103 [.int .i64 n] fun r => r = [.agg (longZ n)] := by
  have hn' := hn
  have hu := uabs_le hn
  have hneg : decide (n < 0) = true → ∀ a b : Int, IntKind.u64.wrap n = a → IntKind.u64.wrap (0 - a) = b → b = uabs n := by
    intro h a b ha hb
    simp only [decide_eq_true_eq] at h
    rw [wrap_u] at ha hb
    unfold uabs
    rw [if_pos h]; omega
  have hpos : decide (n < 0) = false → ∀ a : Int, IntKind.u64.wrap n = a → a = uabs n := by
    intro h a ha
    simp only [decide_eq_false_iff_not] at h
    rw [wrap_u] at ha
    unfold uabs
    rw [if_neg h]; omega
  clear hn
  refine PCall.x (nt := 27) (res := [.cell 2 134]) mixed tt_ok [] Try.func103 rfl rfl rfl c103 (Nat.le_of_ble_eq_true rfl) ?_
  intro cp cc lp Q' hcp hcc hlp hQ
  repeat' (first
    | (with_reducible refine Nm.mk ?_; intro z hz)
    | (with_reducible refine IfB.mk ?_ ?_ <;> (intro h; cases h))
    | (with_reducible refine Asm.mk ?_ ?_; focus (first | kernel_rfl | decide))
    | (with_reducible refine Asm.mk2 ?_ ?_)
    | ((fail_if_success (with_reducible refine hQ _ ?_)); (fail_if_success (with_reducible refine Side.mk ?_)); (fail_if_success (with_reducible refine isCP hcp ?_)); (fail_if_success (with_reducible refine isCC hcc ?_)); (fail_if_success (with_reducible refine isLP hlp ?_)); (fail_if_success (with_reducible refine Ix.mk ?_)); (fail_if_success (with_reducible refine SIx.mk ?_)); (fail_if_success (with_reducible refine SEx.mk ?_)); (fail_if_success (with_reducible refine EIx.mk ?_)); (fail_if_success (with_reducible show False)); (fail_if_success (with_reducible refine hR ?_ _ ?_ ?_ ?_ ?_ ?_)); (fail_if_success (with_reducible refine hR2 ?_ _ ?_ ?_ ?_ ?_ ?_)); cbv))
  · obtain ⟨u0, hu0⟩ : ∃ u0, z = u0 := ⟨_, rfl⟩
    have hst : u0 = uabs n := by
      rw [← hu0]
      first
        | exact hneg (by assumption) _ _ (by assumption) (by assumption)
        | exact hpos (by assumption) _ (by assumption)
    have hsg : decide (n < 0) = true := by assumption
    refine mintX hlp 1 1 1 rfl rfl ?_
    refine loopT (ι := Int × List (List PV) × Nat) mixed tt_ok hcp hcc hlp [2, 4] (fun p => [(3, .p (.int .u64 p.1))])
      (fun p => [.cells [.p (.bool false), .full []], .cells [.p (.bool true), .tok 2 p.2.1], .spare p.2.2 1])
      (fun p => OfOk n p.1 p.2.1 p.2.2) (fun p => p.1.toNat) (z, [], 0) 3 (fun _ => rfl) ⟨by show 0 ≤ z; omega, by show z < _; omega, by show [] ++ _ = _; rw [hu0, hst]; rfl, rfl, rfl⟩ ⟨rfl, trivial⟩ rfl ?_
    rintro R ⟨u, L, m⟩ hi hR
    have hi : OfOk n u L m := hi
    have h4 := hi.len4 hn'
    have u0' := hi.u0
    have u1' := hi.u1
    have hm := hi.len
    have hok := hi.ok
    have ha := and16u u ⟨u0', u1'⟩
    have hb := shr16u u
    have hc : IntKind.u32.wrap (u % 65536) = u % 65536 := IntWalk.u32_in _ (by omega)
    have hsd : L.length + 1 ≤ maxLen ∧ (L.length + 1) * 4 ≤ 140737488355328 := ⟨by simp only [maxLen]; omega, by omega⟩
    have hstep : decide (0 < u) = true → OfOk n (u / 65536) (L ++ [[.int .u32 (u % 65536)]]) (m + 1) ∧ (u / 65536).toNat < u.toNat := by
      intro h
      simp only [decide_eq_true_eq] at h
      refine ⟨⟨by omega, by omega, ?_, ?_, by simp [hm]⟩, by omega⟩
      · have := hi.eq
        rw [dig_pos h, List.map_cons] at this
        rw [← this]; simp [u32c]
      · rw [okEs_append, hok]; rfl
    have hend : decide (0 < u) = false → L = longD n := by
      intro h
      simp only [decide_eq_false_iff_not] at h
      have := hi.eq
      rw [show u = 0 by omega, dig_zero] at this
      simpa using this
    repeat' (first
      | (with_reducible refine Nm.mk ?_; intro z hz)
      | (with_reducible refine IfB.mk ?_ ?_ <;> (intro h; cases h))
      | (with_reducible refine Asm.mk ?_ ?_; focus kernel_rfl)
      | (with_reducible refine Asm.mk2 ?_ ?_)
      | ((fail_if_success (with_reducible refine hQ _ ?_)); (fail_if_success (with_reducible refine Side.mk ?_)); (fail_if_success (with_reducible refine isCP hcp ?_)); (fail_if_success (with_reducible refine isCC hcc ?_)); (fail_if_success (with_reducible refine isLP hlp ?_)); (fail_if_success (with_reducible refine Ix.mk ?_)); (fail_if_success (with_reducible refine SIx.mk ?_)); (fail_if_success (with_reducible refine SEx.mk ?_)); (fail_if_success (with_reducible refine EIx.mk ?_)); (fail_if_success (with_reducible show False)); (fail_if_success (with_reducible refine hR ?_ _ ?_ ?_ ?_ ?_ ?_)); (fail_if_success (with_reducible refine hR2 ?_ _ ?_ ?_ ?_ ?_ ?_)); cbv))
    all_goals first
      | exact Side.mk ⟨hm.symm, rfl, hok, rfl, hsd.1, hsd.2⟩
      | (refine Side.mk ?_; decide)
      | (obtain ⟨g1, g2⟩ := hstep (by assumption)
         rename_i y1 hy1 y2 hy2 y3 hy3 y4 hy4
         rw [ha] at hy1
         rw [← hy1, hc] at hy2
         rw [hb] at hz
         subst hy2
         refine hR (u / 65536, _, _) _ (by rw [← hy3, ← hy4]; exact hm ▸ g1) g2 ⟨hz ▸ rfl, trivial⟩ ⟨rfl, rfl, trivial⟩ rfl)
      | (refine hQ _ ?_
         rw [hend (by assumption), longZ, hsg])
  · obtain ⟨u0, hu0⟩ : ∃ u0, z = u0 := ⟨_, rfl⟩
    have hst : u0 = uabs n := by
      rw [← hu0]
      first
        | exact hneg (by assumption) _ _ (by assumption) (by assumption)
        | exact hpos (by assumption) _ (by assumption)
    have hsg : decide (n < 0) = false := by assumption
    refine mintX hlp 1 1 1 rfl rfl ?_
    refine loopT (ι := Int × List (List PV) × Nat) mixed tt_ok hcp hcc hlp [2, 4] (fun p => [(3, .p (.int .u64 p.1))])
      (fun p => [.cells [.p (.bool false), .full []], .cells [.p (.bool false), .tok 2 p.2.1], .spare p.2.2 1])
      (fun p => OfOk n p.1 p.2.1 p.2.2) (fun p => p.1.toNat) (z, [], 0) 3 (fun _ => rfl) ⟨by show 0 ≤ z; omega, by show z < _; omega, by show [] ++ _ = _; rw [hu0, hst]; rfl, rfl, rfl⟩ ⟨rfl, trivial⟩ rfl ?_
    rintro R ⟨u, L, m⟩ hi hR
    have hi : OfOk n u L m := hi
    have h4 := hi.len4 hn'
    have u0' := hi.u0
    have u1' := hi.u1
    have hm := hi.len
    have hok := hi.ok
    have ha := and16u u ⟨u0', u1'⟩
    have hb := shr16u u
    have hc : IntKind.u32.wrap (u % 65536) = u % 65536 := IntWalk.u32_in _ (by omega)
    have hsd : L.length + 1 ≤ maxLen ∧ (L.length + 1) * 4 ≤ 140737488355328 := ⟨by simp only [maxLen]; omega, by omega⟩
    have hstep : decide (0 < u) = true → OfOk n (u / 65536) (L ++ [[.int .u32 (u % 65536)]]) (m + 1) ∧ (u / 65536).toNat < u.toNat := by
      intro h
      simp only [decide_eq_true_eq] at h
      refine ⟨⟨by omega, by omega, ?_, ?_, by simp [hm]⟩, by omega⟩
      · have := hi.eq
        rw [dig_pos h, List.map_cons] at this
        rw [← this]; simp [u32c]
      · rw [okEs_append, hok]; rfl
    have hend : decide (0 < u) = false → L = longD n := by
      intro h
      simp only [decide_eq_false_iff_not] at h
      have := hi.eq
      rw [show u = 0 by omega, dig_zero] at this
      simpa using this
    repeat' (first
      | (with_reducible refine Nm.mk ?_; intro z hz)
      | (with_reducible refine IfB.mk ?_ ?_ <;> (intro h; cases h))
      | (with_reducible refine Asm.mk ?_ ?_; focus kernel_rfl)
      | (with_reducible refine Asm.mk2 ?_ ?_)
      | ((fail_if_success (with_reducible refine hQ _ ?_)); (fail_if_success (with_reducible refine Side.mk ?_)); (fail_if_success (with_reducible refine isCP hcp ?_)); (fail_if_success (with_reducible refine isCC hcc ?_)); (fail_if_success (with_reducible refine isLP hlp ?_)); (fail_if_success (with_reducible refine Ix.mk ?_)); (fail_if_success (with_reducible refine SIx.mk ?_)); (fail_if_success (with_reducible refine SEx.mk ?_)); (fail_if_success (with_reducible refine EIx.mk ?_)); (fail_if_success (with_reducible show False)); (fail_if_success (with_reducible refine hR ?_ _ ?_ ?_ ?_ ?_ ?_)); (fail_if_success (with_reducible refine hR2 ?_ _ ?_ ?_ ?_ ?_ ?_)); cbv))
    all_goals first
      | exact Side.mk ⟨hm.symm, rfl, hok, rfl, hsd.1, hsd.2⟩
      | (refine Side.mk ?_; decide)
      | (obtain ⟨g1, g2⟩ := hstep (by assumption)
         rename_i y1 hy1 y2 hy2 y3 hy3 y4 hy4
         rw [ha] at hy1
         rw [← hy1, hc] at hy2
         rw [hb] at hz
         subst hy2
         refine hR (u / 65536, _, _) _ (by rw [← hy3, ← hy4]; exact hm ▸ g1) g2 ⟨hz ▸ rfl, trivial⟩ ⟨rfl, rfl, trivial⟩ rfl)
      | (refine hQ _ ?_
         rw [hend (by assumption), longZ, hsg])
end Go.Proofs.Ytnhmnfokbinplaa
