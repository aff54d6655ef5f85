/- tallyref: numbers as lists of digits: as a value; sums. Own work; no condition. -/
import Derived.Test.YtnhmnfokbinplaaLg5
namespace Go.Proofs.Ytnhmnfokbinplaa
open Go Go.RowKit
set_option maxRecDepth 100000
set_option linter.unusedSimpArgs false
set_option linter.unusedVariables false

theorem num_l (n : Int) : PCall Try.prog 93 [.int .i64 n] fun r => r = [(num n).enc] := by
  refine PCall.x (nt := 5) (res := [.cell 2 25]) mixed tt_ok [] Try.func93 rfl rfl rfl c93 (Nat.le_of_ble_eq_true rfl) ?_
  intro cp cc lp Q' hcp hcc hlp hQ
  repeat' (first
    | (with_reducible refine Nm.mk ?_; intro z hz)
    | (with_reducible refine IfB.mk ?_ ?_ <;> (intro h; cases h))
    | (with_reducible refine Asm.mk ?_ ?_; focus (first | kernel_rfl | decide))
    | (with_reducible refine Asm.mk2 ?_ ?_)
    | ((fail_if_success (with_reducible refine hQ _ ?_)); (fail_if_success (with_reducible refine Side.mk ?_)); (fail_if_success (with_reducible refine isCP hcp ?_)); (fail_if_success (with_reducible refine isCC hcc ?_)); (fail_if_success (with_reducible refine isLP hlp ?_)); (fail_if_success (with_reducible refine Ix.mk ?_)); (fail_if_success (with_reducible refine SIx.mk ?_)); (fail_if_success (with_reducible refine SEx.mk ?_)); (fail_if_success (with_reducible refine EIx.mk ?_)); (fail_if_success (with_reducible show False)); (fail_if_success (with_reducible refine hR ?_ _ ?_ ?_ ?_ ?_ ?_)); (fail_if_success (with_reducible refine hR2 ?_ _ ?_ ?_ ?_ ?_ ?_)); cbv))
  all_goals (refine hQ _ ?_; clear hQ hcp hcc hlp; subst_vars; simp_all [num, Val.enc])
theorem none_l : PCall Try.prog 36 [] fun r => r = [Val.zero.enc] := by
  refine PCall.x (nt := 2) (res := [.cell 0 25]) mixed tt_ok [] Try.func36 rfl rfl rfl c36 (Nat.le_of_ble_eq_true rfl) ?_
  intro cp cc lp Q' hcp hcc hlp hQ
  repeat' (first
    | (with_reducible refine Nm.mk ?_; intro z hz)
    | (with_reducible refine IfB.mk ?_ ?_ <;> (intro h; cases h))
    | (with_reducible refine Asm.mk ?_ ?_; focus (first | kernel_rfl | decide))
    | (with_reducible refine Asm.mk2 ?_ ?_)
    | ((fail_if_success (with_reducible refine hQ _ ?_)); (fail_if_success (with_reducible refine Side.mk ?_)); (fail_if_success (with_reducible refine isCP hcp ?_)); (fail_if_success (with_reducible refine isCC hcc ?_)); (fail_if_success (with_reducible refine isLP hlp ?_)); (fail_if_success (with_reducible refine Ix.mk ?_)); (fail_if_success (with_reducible refine SIx.mk ?_)); (fail_if_success (with_reducible refine SEx.mk ?_)); (fail_if_success (with_reducible refine EIx.mk ?_)); (fail_if_success (with_reducible show False)); (fail_if_success (with_reducible refine hR ?_ _ ?_ ?_ ?_ ?_ ?_)); (fail_if_success (with_reducible refine hR2 ?_ _ ?_ ?_ ?_ ?_ ?_)); cbv))
  all_goals (refine hQ _ ?_; clear hQ hcp hcc hlp; subst_vars; simp_all [Val.zero, Val.enc])
theorem shl16 (a : Int) (h : 0 ≤ a ∧ a < 281474976710656) : IntKind.u64.wrap (a * 2 ^ (min (16 : Int).toNat IntKind.u64.bits)) = 65536 * a := by
  have : (2 : Int) ^ (min (16 : Int).toNat IntKind.u64.bits) = 65536 := by decide
  rw [this, wrap_u]; omega
theorem or16 (a d : Int) (h : 0 ≤ a ∧ a < 281474976710656) (hd : 0 ≤ d ∧ d < 65536) : IntKind.u64.wrap ((BitVec.ofInt IntKind.u64.bits (65536 * a) ||| BitVec.ofInt IntKind.u64.bits d).toNat : Int) = d + 65536 * a := by
  obtain ⟨n, rfl⟩ := Int.eq_ofNat_of_zero_le h.1
  obtain ⟨e, rfl⟩ := Int.eq_ofNat_of_zero_le hd.1
  have hb : IntKind.u64.bits = 64 := rfl
  have e1 : (BitVec.ofInt 64 (65536 * (n : Int))).toNat = 65536 * n := by simp [BitVec.toNat_ofInt]; omega
  have e2 : (BitVec.ofInt 64 (e : Int)).toNat = e := by simp [BitVec.toNat_ofInt]; omega
  rw [hb, BitVec.toNat_or, e1, e2]
  have e3 : 65536 * n ||| e = 65536 * n + e := by
    have := Nat.two_pow_add_eq_or_of_lt (i := 16) (b := e) (by omega) n
    simpa using this.symm
  rw [e3, wrap_u]; omega

set_option maxHeartbeats 2000000 in
theorem value_c (Z : Int) (hz1000 : (dig (uabs Z)).length ≤ 1000) : PCall Try.prog 105 [.agg (longZ Z)] fun r => r = [(optNum (in64 Z)).enc] := by
  have hu0 : 0 ≤ uabs Z := by unfold uabs; split <;> omega
  have ou := okD_dig (uabs Z)
  have eu := lval_dig' hu0
  unfold longZ longD
  obtain ⟨m, hm⟩ : ∃ m, decide (Z < 0) = m := ⟨_, rfl⟩
  rw [hm]
  have hzu : Z = if m = true then -uabs Z else uabs Z := by
    rw [← hm]; unfold uabs
    by_cases g : Z < 0 <;> simp [g]
  have hm0 : m = true → 0 < uabs Z := by
    intro h; rw [h] at hm; have := of_decide_eq_true hm; unfold uabs; rw [if_pos this]; omega
  generalize hd : dig (uabs Z) = d at *
  obtain ⟨L, hL⟩ : ∃ L, d.map u32c = L := ⟨_, rfl⟩
  rw [hL]
  have h1 : L.length = d.length := by rw [← hL]; simp
  have hbig : ∀ x : Int, (L.length : Int) = x → decide (4 < x) = true → in64 Z = none := by
    intro x hx h
    simp only [decide_eq_true_eq] at h
    have h2 : ¬ uabs Z < 18446744073709551616 := by
      intro g
      have := dig4 g
      rw [hd] at this; omega
    unfold in64
    rw [if_neg]
    rw [hzu]
    split <;> omega
  have hsm : ∀ x : Int, decide (4 < x) = false → (L.length : Int) = x → d.length ≤ 4 := by
    intro x h hx; simp only [decide_eq_false_iff_not] at h; omega
  have hst0 : ∀ x z : Int, (L.length : Int) = x → IntKind.i64.wrap (x - 1) = z → (-1 ≤ z ∧ z < d.length) ∧ d.drop (z + 1).toNat = [] := by
    intro x z h g
    rw [wrap_in (by omega)] at g
    exact ⟨by omega, List.drop_eq_nil_of_le (by omega)⟩
  have hfin1 : ∀ u : Int, u = uabs Z → m = true → decide (u ≤ 9223372036854775808) = true → ∀ a b, IntKind.u64.wrap (0 - u) = a → IntKind.i64.wrap a = b → optNum (in64 Z) = num b := by
    intro u hu hmt h a b ha hb
    simp only [decide_eq_true_eq] at h
    have := hm0 hmt
    have e : b = Z := by
      rw [wrap_u] at ha
      rw [wrap_i] at hb
      rw [hzu, if_pos hmt]; omega
    have e2 : in64 Z = some Z := by unfold in64; rw [if_pos]; rw [hzu, if_pos hmt]; omega
    rw [e2, e]; rfl
  have hfin2 : ∀ u : Int, u = uabs Z → m = false → decide (u < 9223372036854775808) = true → ∀ b, IntKind.i64.wrap u = b → optNum (in64 Z) = num b := by
    intro u hu hmf h b hb
    simp only [decide_eq_true_eq] at h
    have e : b = Z := by
      rw [wrap_in (by omega)] at hb
      rw [hzu, hmf]; simp; omega
    have e2 : in64 Z = some Z := by unfold in64; rw [if_pos]; rw [hzu, hmf]; simp; omega
    rw [e2, e]; rfl
  have hfin3 : ∀ u : Int, u = uabs Z → (m = true → decide (u ≤ 9223372036854775808) = false) → (m = false → decide (u < 9223372036854775808) = false) → optNum (in64 Z) = Val.zero := by
    intro u hu h1 h2
    have e2 : in64 Z = none := by
      unfold in64; rw [if_neg]
      rw [hzu]
      cases hmm : m with
      | true => have := h1 hmm; simp only [decide_eq_false_iff_not] at this; simp; omega
      | false => have := h2 hmm; simp only [decide_eq_false_iff_not] at this; simp; omega
    rw [e2]; rfl
  refine PCall.x (nt := 48) (res := [.cell 2 25]) mixed tt_ok [] Try.func105 rfl rfl rfl c105 (Nat.le_of_ble_eq_true rfl) ?_
  intro cp cc lp Q' hcp hcc hlp hQ
  repeat' (first
    | (with_reducible refine Nm.mk ?_; intro z hz)
    | (with_reducible refine IfB.mk ?_ ?_ <;> (intro h; cases h))
    | (with_reducible refine Asm.mk ?_ ?_; focus (first | kernel_rfl | decide))
    | (with_reducible refine isCP hcp ?_; first | (refine vP hcp (none_l) ?_; intro v hv) | (refine vP hcp (num_l _) ?_; intro v hv))
    | (with_reducible refine isCC hcc ?_; first | (refine vA hcc (none_l) rfl ?_; intro v hv) | (refine vA hcc (num_l _) rfl ?_; intro v hv))
    | (with_reducible refine Asm.mk2 ?_ ?_)
    | ((fail_if_success (with_reducible refine hQ _ ?_)); (fail_if_success (with_reducible refine Side.mk ?_)); (fail_if_success (with_reducible refine isCP hcp ?_)); (fail_if_success (with_reducible refine isCC hcc ?_)); (fail_if_success (with_reducible refine isLP hlp ?_)); (fail_if_success (with_reducible refine Ix.mk ?_)); (fail_if_success (with_reducible refine SIx.mk ?_)); (fail_if_success (with_reducible refine SEx.mk ?_)); (fail_if_success (with_reducible refine EIx.mk ?_)); (fail_if_success (with_reducible show False)); (fail_if_success (with_reducible refine hR ?_ _ ?_ ?_ ?_ ?_ ?_)); (fail_if_success (with_reducible refine hR2 ?_ _ ?_ ?_ ?_ ?_ ?_)); cbv))
  · refine hQ _ ?_
    rw [hbig _ (by assumption) (by assumption)]
    clear hQ hfin1 hfin2 hfin3 hbig hsm hst0 hcp hcc hlp
    subst_vars; rfl
  · have h4 := hsm _ (by assumption) (by assumption)
    have hz0 := hst0 _ _ (by assumption) hz
    refine loopK (ι := Int × Int) mixed tt_ok hcp hcc hlp [1, 2] (fun p => [(3, .p (.int .u64 p.1)), (4, .p (.int .i64 p.2))]) (fun p => (-1 ≤ p.2 ∧ p.2 < d.length) ∧ p.1 = lval (d.drop (p.2 + 1).toNat)) (fun p => (p.2 + 1).toNat) (0, z) (fun _ => rfl)
      ⟨hz0.1, by show 0 = _; rw [hz0.2]; rfl⟩ ⟨rfl, rfl, trivial⟩ ?_
    rintro R ⟨u, i⟩ ⟨⟨hi0, hi1⟩, hu⟩ hR
    have hi0 : -1 ≤ i := hi0
    have hi1 : i < d.length := hi1
    have hu : u = lval (d.drop (i + 1).toNat) := hu
    have hk : decide (0 ≤ i) = true → 0 ≤ i := of_decide_eq_true
    have hend : decide (0 ≤ i) = false → u = uabs Z := by
      intro h
      simp only [decide_eq_false_iff_not] at h
      rw [hu, show (i + 1).toNat = 0 by omega, List.drop_zero, eu]
    have hstep : decide (0 ≤ i) = true → ∀ x, d[i.toNat]? = some x → ∀ a b c e, IntKind.u64.wrap (u * 2 ^ (min (16 : Int).toNat IntKind.u64.bits)) = a → IntKind.u64.wrap x = b → IntKind.u64.wrap ((BitVec.ofInt IntKind.u64.bits a ||| BitVec.ofInt IntKind.u64.bits b).toNat : Int) = c → IntKind.i64.wrap (i - 1) = e →
        c = lval (d.drop (i - 1 + 1).toNat) ∧ e = i - 1 ∧ (-1 ≤ i - 1 ∧ i - 1 < d.length) ∧ (i - 1 + 1).toNat < (i + 1).toNat := by
      intro h x hx a b c e ha hb hc he
      have := hk h
      have hxd : 0 ≤ x ∧ x < 65536 := ou x (List.mem_of_getElem? hx)
      have hod : okD (d.drop (i + 1).toNat) := fun y hy => ou y (List.mem_of_mem_drop hy)
      have hub : 0 ≤ u ∧ u < 281474976710656 := by
        have h1 := lval_lt hod
        rw [← hu, List.length_drop] at h1
        have : d.length - (i + 1).toNat = 0 ∨ d.length - (i + 1).toNat = 1 ∨ d.length - (i + 1).toNat = 2 ∨ d.length - (i + 1).toNat = 3 := by omega
        rcases this with g | g | g | g <;> rw [g] at h1 <;> simp only [Int.reducePow] at h1 <;> omega
      rw [shl16 u hub] at ha
      rw [IntWalk.u64_in x (by omega)] at hb
      subst ha hb
      rw [or16 u x hub hxd] at hc
      rw [wrap_in (by omega)] at he
      refine ⟨?_, he.symm, by omega, by omega⟩
      rw [← hc, show (i - 1 + 1).toNat = i.toNat by omega, lval_drop d i.toNat, hx, hu, show (i + 1).toNat = i.toNat + 1 by omega]; rfl
    have hc0 : ∀ b : Bool, (!b) = true → b = false := by intro b; cases b <;> simp
    repeat' (first
      | (with_reducible refine Nm.mk ?_; intro z hz)
      | (with_reducible refine IfB.mk ?_ ?_ <;> (intro h; cases h))
      | (with_reducible refine Asm.mk ?_ ?_; focus kernel_rfl)
      | (with_reducible refine isCP hcp ?_; first | (refine vP hcp (none_l) ?_; intro v hv) | (refine vP hcp (num_l _) ?_; intro v hv))
      | (with_reducible refine isCC hcc ?_; first | (refine vA hcc (none_l) rfl ?_; intro v hv) | (refine vA hcc (num_l _) rfl ?_; intro v hv))
      | (with_reducible refine Ix.map hL u32c_len (by decide) (hk (by assumption)) hi1 ?_; intro x hx)
      | (with_reducible refine Asm.mk2 ?_ ?_)
      | ((fail_if_success (with_reducible refine hQ _ ?_)); (fail_if_success (with_reducible refine Side.mk ?_)); (fail_if_success (with_reducible refine isCP hcp ?_)); (fail_if_success (with_reducible refine isCC hcc ?_)); (fail_if_success (with_reducible refine isLP hlp ?_)); (fail_if_success (with_reducible refine Ix.mk ?_)); (fail_if_success (with_reducible refine SIx.mk ?_)); (fail_if_success (with_reducible refine SEx.mk ?_)); (fail_if_success (with_reducible refine EIx.mk ?_)); (fail_if_success (with_reducible show False)); (fail_if_success (with_reducible refine hR ?_ _ ?_ ?_ ?_ ?_ ?_)); (fail_if_success (with_reducible refine hR2 ?_ _ ?_ ?_ ?_ ?_ ?_)); cbv))
    all_goals first
      | (refine Side.mk ?_; decide)
      | exact absurd (show (!true) = true by assumption) (by decide)
      | exact absurd (show (!false) = false by assumption) (by decide)
      | (obtain ⟨g1, g2, g3, g4⟩ := hstep (by assumption) x hx _ _ _ _ (by assumption) (by assumption) (by assumption) (by assumption)
         exact hR (_, i - 1) _ ⟨g3, g1⟩ g4 ⟨rfl, g2 ▸ rfl, trivial⟩ ⟨rfl, rfl, trivial⟩ rfl)
      | (refine hQ _ ?_
         have hu2 := hend (by assumption)
         clear hQ hR hstep hcp hcc hlp
         first
           | rw [hfin1 _ hu2 rfl (by assumption) _ _ (by assumption) (by assumption)]
           | rw [hfin2 _ hu2 rfl (by assumption) _ (by assumption)]
           | rw [hfin3 _ hu2 (fun h => by first | assumption | cases h) (fun h => by first | assumption | cases h)]
         subst hv; rfl)
end Go.Proofs.Ytnhmnfokbinplaa
