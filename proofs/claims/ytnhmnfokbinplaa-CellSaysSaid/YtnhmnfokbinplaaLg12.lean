/- tallyref: numbers as lists of digits: divided, the walk. Own work; no condition. -/
import Derived.Test.YtnhmnfokbinplaaLg11
namespace Go.Proofs.Ytnhmnfokbinplaa
open Go Go.RowKit
set_option maxRecDepth 100000
set_option linter.unusedSimpArgs false
set_option linter.unusedVariables false

structure DI (X Y : Int) (i : Int) (q r : Int) (Qd Rd : List (List PV)) : Prop where
  i0 : -1 ≤ i
  q0 : 0 ≤ q ∧ q ≤ X
  r0 : 0 ≤ r ∧ r < Y
  d : DivI X Y (i + 1).toNat q r
  eq : (dig q).map u32c = Qd
  er : (dig r).map u32c = Rd
set_option maxHeartbeats 8000000 in
theorem divided_c (x y : Int) (hy0 : y ≠ 0) (lx : (dig (uabs x)).length ≤ 20) (ly : (dig (uabs y)).length ≤ 20) :
    PCall Try.prog 108 [.agg (longZ x), .agg (longZ y)] fun r => r = [.agg (longZ (x.tdiv y)), .agg (longZ (x.tmod y))] := by
  have nx := uabs_nn x
  have ny : 0 < uabs y := by unfold uabs; split <;> omega
  obtain ⟨sd, sm⟩ := sgn_div (x := x) hy0
  obtain ⟨q1, q2, hQ0⟩ : ∃ q1 q2, longZ (x.tdiv y) = [.bool q1, .sl q2] := ⟨_, _, rfl⟩
  obtain ⟨q3, q4, hQ1⟩ : ∃ q1 q2, longZ (x.tmod y) = [.bool q1, .sl q2] := ⟨_, _, rfl⟩
  rw [hQ0, hQ1]
  unfold longZ longD
  obtain ⟨m, hm⟩ : ∃ m, decide (x < 0) = m := ⟨_, rfl⟩
  obtain ⟨m', hm'⟩ : ∃ m, decide (y < 0) = m := ⟨_, rfl⟩
  rw [hm, hm'] at sd ⊢
  rw [hm] at sm
  generalize hax : uabs x = ax at *
  generalize hay : uabs y = ay at *
  obtain ⟨X, hX⟩ : ∃ X, (dig ax).map u32c = X := ⟨_, rfl⟩
  obtain ⟨Y, hY⟩ : ∃ Y, (dig ay).map u32c = Y := ⟨_, rfl⟩
  rw [hX, hY]
  have h1 : X.length = (dig ax).length := by rw [← hX]; simp
  -- lengths
  have hqx : ∀ q, 0 ≤ q → q ≤ ax → (dig q).length ≤ 20 := fun q h g => by have := dig_len_le h g; omega
  have hry : ∀ r, 0 ≤ r → r < ay → (dig r).length ≤ 20 := fun r h g => by have := dig_len_le h (by omega : r ≤ ay); omega
  have h22 : ∀ r, 0 ≤ r → (dig r).length ≤ 20 → (dig (r * 2)).length ≤ 21 ∧ (dig (r * 2 + 1)).length ≤ 41 := by
    intro r h g
    have l2 : (dig 2).length = 1 := by rw [dig_small (by decide) (by decide)]; rfl
    have l3 : (dig 3).length = 1 := by rw [dig_small (by decide) (by decide)]; rfl
    have a := dig_mul h (by decide : (0 : Int) ≤ 2)
    refine ⟨by omega, ?_⟩
    rcases Int.lt_or_eq_of_le h with p | p
    · have b := dig_mul h (by decide : (0 : Int) ≤ 3)
      have c := dig_len_le (by omega : 0 ≤ r * 2 + 1) (by omega : r * 2 + 1 ≤ r * 3)
      omega
    · subst p; rw [dig_small (by decide) (by decide)]; decide
  have hst0 : ∀ s t z : Int, (X.length : Int) = s → IntKind.i64.wrap (s * 16) = t → IntKind.i64.wrap (t - 1) = z → (-1 ≤ z ∧ z < 16 * (dig ax).length) ∧ DI ax ay z 0 0 [] [] := by
    intro s t z h g k
    rw [wrap_in (by omega)] at g
    rw [wrap_in (by omega)] at k
    have e : (z + 1).toNat = 16 * (dig ax).length := by omega
    exact ⟨by omega, by omega, by omega, by omega, by rw [e]; exact DivI.start nx, by rw [dig_zero]; rfl, by rw [dig_zero]; rfl⟩
  -- the end
  have hend : ∀ (i q r : Int) (Qd Rd : List (List PV)) (z : Bool), DI ax ay i q r Qd Rd → decide (0 ≤ i) = false → (!(m == m')) = z →
      (PCall Try.prog 106 [.agg [.bool z, .sl Qd]] fun r => r = [.agg [.bool q1, .sl q2]]) ∧ PCall Try.prog 106 [.agg [.bool m, .sl Rd]] fun r => r = [.agg [.bool q3, .sl q4]] := by
    intro i q r Qd Rd z h hi hz
    simp only [decide_eq_false_iff_not] at hi
    have i0 := h.i0
    have d := h.d
    rw [show (i + 1).toNat = 0 by omega] at d
    obtain ⟨e1, e2⟩ := d.stop
    have lq := hqx q h.q0.1 h.q0.2
    have lr := hry r h.r0.1 h.r0.2
    have a := trim_c z (dig q) (okD_dig q) Qd h.eq (by omega)
    have b := trim_c m (dig r) (okD_dig r) Rd h.er (by omega)
    rw [lval_dig' h.q0.1, ← hz, show (!(m == m')) = (m != m') from rfl, e1, sd, hQ0] at a
    rw [lval_dig' h.r0.1, e2, sm, hQ1] at b
    rw [← hz]
    exact ⟨a, b⟩
  clear sd sm
  refine PCall.x (nt := 71) (res := [.cell 4 134, .cell 5 134]) mixed tt_ok [] Try.func108 rfl rfl rfl c108 (Nat.le_of_ble_eq_true rfl) ?_
  intro cp cc lp Q' hcp hcc hlp hQ
  repeat' (first
    | (with_reducible refine Nm.mk ?_; intro z hz)
    | (with_reducible refine IfB.mk ?_ ?_ <;> (intro h; cases h))
    | (with_reducible refine Asm.mk ?_ ?_; focus (first | kernel_rfl | decide))
    | (with_reducible refine isCP hcp ?_; first | (refine xP hcp (two_l) ?_; skip))
    | (with_reducible refine isCC hcc ?_; first | (refine xA hcc (two_l) rfl ?_; skip))
    | (with_reducible refine Asm.mk2 ?_ ?_)
    | ((fail_if_success (with_reducible refine hQ _ ?_)); (fail_if_success (with_reducible refine Side.mk ?_)); (fail_if_success (with_reducible refine isCP hcp ?_)); (fail_if_success (with_reducible refine isCC hcc ?_)); (fail_if_success (with_reducible refine isLP hlp ?_)); (fail_if_success (with_reducible refine Ix.mk ?_)); (fail_if_success (with_reducible refine SIx.mk ?_)); (fail_if_success (with_reducible refine SEx.mk ?_)); (fail_if_success (with_reducible refine EIx.mk ?_)); (fail_if_success (with_reducible show False)); (fail_if_success (with_reducible refine hR ?_ _ ?_ ?_ ?_ ?_ ?_)); (fail_if_success (with_reducible refine hR2 ?_ _ ?_ ?_ ?_ ?_ ?_)); cbv))
  obtain ⟨hzr, hd0⟩ := hst0 _ _ _ (by assumption) (by assumption) hz
  clear hst0
  refine forgetX hlp 4 1 rfl rfl rfl ?_
  refine forgetX hlp 5 1 rfl rfl rfl ?_
  refine loopT (ι := Int × Int × Int × List (List PV) × List (List PV)) mixed tt_ok hcp hcc hlp [2, 3, 4, 5, 6, 7, 8, 9] (fun p => [(10, .p (.int .i64 p.1))])
    (fun p => [.cells [.p (.bool m), .p (.sl X)], .cells [.p (.bool m'), .p (.sl Y)], .cells [.p (.bool false), .full []], .cells [.p (.bool false), .full []], .cells [.p (.bool false), .p (.sl p.2.2.2.1)], .cells [.p (.bool false), .p (.sl p.2.2.2.2)], .cells [.p (.bool false), .p (.sl [[.int .u32 2]])], .cells [.p (.bool false), .p (.sl Y)]])
    (fun p => p.1 < 16 * (dig ax).length ∧ DI ax ay p.1 p.2.1 p.2.2.1 p.2.2.2.1 p.2.2.2.2) (fun p => (p.1 + 1).toNat) (z, 0, 0, [], []) 8 (fun _ => rfl) ⟨hzr.2, hd0⟩ ⟨rfl, trivial⟩ rfl ?_
  rintro R ⟨i, q, r, Qd, Rd⟩ ⟨hi1, hd⟩ hR
  have hi1 : i < 16 * ((dig ax).length : Int) := hi1
  have hd : DI ax ay i q r Qd Rd := hd
  have hi0 := hd.i0
  have lq := hqx q hd.q0.1 hd.q0.2
  have lr := hry r hd.r0.1 hd.r0.2
  obtain ⟨lq2, lq3⟩ := h22 q hd.q0.1 lq
  obtain ⟨lr2, lr3⟩ := h22 r hd.r0.1 lr
  have q00 := hd.q0
  have r00 := hd.r0
  have heq := hd.eq
  have her := hd.er
  obtain ⟨Q2, hQ2⟩ : ∃ V, (dig (q * 2)).map u32c = V := ⟨_, rfl⟩
  obtain ⟨Q3, hQ3⟩ : ∃ V, (dig (q * 2 + 1)).map u32c = V := ⟨_, rfl⟩
  obtain ⟨R2, hR2'⟩ : ∃ V, (dig (r * 2)).map u32c = V := ⟨_, rfl⟩
  obtain ⟨R3, hR3⟩ : ∃ V, (dig (r * 2 + 1)).map u32c = V := ⟨_, rfl⟩
  obtain ⟨R4, hR4⟩ : ∃ V, (dig (r * 2 - ay)).map u32c = V := ⟨_, rfl⟩
  obtain ⟨R5, hR5⟩ : ∃ V, (dig (r * 2 + 1 - ay)).map u32c = V := ⟨_, rfl⟩
  have tq := times2 hd.q0.1 (by omega : (dig q).length ≤ 100)
  have tr := times2 hd.r0.1 (by omega : (dig r).length ≤ 100)
  have p1 := plus1' (q := r * 2) (by omega) (by omega)
  have pq := plus1' (q := q * 2) (by omega) (by omega)
  have s2 := lsize_c false false (r * 2) ay (by omega) (by omega) (by omega) (by omega) _ _ hR2' hY
  have s3 := lsize_c false false (r * 2 + 1) ay (by omega) (by omega) (by omega) (by omega) _ _ hR3 hY
  rw [heq, hQ2] at tq
  rw [her, hR2'] at tr
  rw [hR2', hR3] at p1
  rw [hQ2, hQ3] at pq
  have hord : ∀ a b z : Int, ordI a b = z → decide (0 ≤ z) = true → b ≤ a := by
    intro a b z h g; rw [← h] at g; unfold ordI at g
    split at g
    · simp at g
    · omega
  have hord' : ∀ a b z : Int, ordI a b = z → decide (0 ≤ z) = false → a < b := by
    intro a b z h g; rw [← h] at g; unfold ordI at g
    split at g
    · assumption
    · split at g <;> simp at g
  have m2 : ∀ z, ordI (r * 2) ay = z → decide (0 ≤ z) = true → PCall Try.prog 104 [.agg [.bool false, .sl R2], .agg [.bool true, .sl Y]] fun r => r = [.agg [.bool false, .sl R4]] := by
    intro z h g
    have := minus' (q := r * 2) (y := ay) (by omega) ny (hord _ _ _ h g) (by omega)
    rw [hR2', hY, hR4] at this
    exact this
  have m3 : ∀ z, ordI (r * 2 + 1) ay = z → decide (0 ≤ z) = true → PCall Try.prog 104 [.agg [.bool false, .sl R3], .agg [.bool true, .sl Y]] fun r => r = [.agg [.bool false, .sl R5]] := by
    intro z h g
    have := minus' (q := r * 2 + 1) (y := ay) (by omega) ny (hord _ _ _ h g) (by omega)
    rw [hR3, hY, hR5] at this
    exact this
  have hk : decide (0 ≤ i) = true → 0 ≤ i := of_decide_eq_true
  have hix : decide (0 ≤ i) = true → ∀ a, IntKind.i64.wrap (i.tdiv 16) = a → 0 ≤ a ∧ a < (dig ax).length := by
    intro h a ha
    have := hk h
    rw [IntWalk.i64_quo _ _ ⟨this, by omega, by decide⟩] at ha
    omega
  have hmod : decide (0 ≤ i) = true → ∀ b, i.tmod 16 = b → ¬ b < 0 := by
    intro h b hb
    have := hk h
    rw [Int.tmod_eq_emod_of_nonneg this] at hb; omega
  have hbit : decide (0 ≤ i) = true → ∀ a u b c e : Int, IntKind.i64.wrap (i.tdiv 16) = a → (dig ax)[a.toNat]? = some u → i.tmod 16 = b → u.fdiv (2 ^ (min b.toNat IntKind.u32.bits)) = c → IntKind.u32.wrap ((BitVec.ofInt IntKind.u32.bits c &&& BitVec.ofInt IntKind.u32.bits 1).toNat : Int) = e → e = ax / 2 ^ i.toNat % 2 := by
    intro h a u b c e k1 k2 k3 k4 k5
    exact bit_get nx i (hk h) k1 (by omega) k2 k3 k4 k5
  have hnext : decide (0 ≤ i) = true → ∀ f : Int, IntKind.i64.wrap (i - 1) = f → f = i - 1 ∧ i - 1 < 16 * (dig ax).length ∧ (i - 1 + 1).toNat < (i + 1).toNat := by
    intro h f g
    have := hk h
    rw [wrap_in (by omega)] at g; omega
  have hdstep : decide (0 ≤ i) = true → ∀ b : Int, ax / 2 ^ i.toNat % 2 = b → (ay ≤ 2 * r + b → ∀ A B : List (List PV), (dig (q * 2 + 1)).map u32c = A → (dig (2 * r + b - ay)).map u32c = B → DI ax ay (i - 1) (q * 2 + 1) (2 * r + b - ay) A B) ∧ (2 * r + b < ay → ∀ A B : List (List PV), (dig (q * 2)).map u32c = A → (dig (2 * r + b)).map u32c = B → DI ax ay (i - 1) (q * 2) (2 * r + b) A B) := by
    intro h b hb
    have hi := hk h
    have hb2 : 0 ≤ b ∧ b ≤ 1 := by omega
    have dd := hd.d
    rw [show (i + 1).toNat = i.toNat + 1 by omega] at dd
    have st := dd.step ny
    rw [hb] at st
    have hqb : ∀ q' r', DivI ax ay i.toNat q' r' → 0 ≤ q' ∧ q' ≤ ax := by
      intro q' r' d
      have e := d.q
      have h0 : 0 ≤ ax / 2 ^ i.toNat := Int.ediv_nonneg nx (Int.pow_nonneg (by decide))
      have h1 : ax / 2 ^ i.toNat ≤ ax := Int.ediv_le_self _ nx
      rw [e]
      exact ⟨Int.ediv_nonneg h0 (by omega), Int.le_trans (Int.ediv_le_self _ h0) h1⟩
    have e1 : (i - 1 + 1).toNat = i.toNat := by omega
    constructor
    · intro g A B hA hB
      rw [if_pos g, Int.mul_comm 2 q] at st
      exact ⟨by omega, hqb _ _ st, by omega, by rw [e1]; exact st, hA, hB⟩
    · intro g A B hA hB
      rw [if_neg (by omega), Int.mul_comm 2 q] at st
      exact ⟨by omega, hqb _ _ st, by omega, by rw [e1]; exact st, hA, hB⟩
  have hend' := hend i q r Qd Rd
  clear hend
  have hend1 : ∀ z : Bool, decide (0 ≤ i) = false → (!(m == m')) = z → PCall Try.prog 106 [.agg [.bool z, .sl Qd]] fun r => r = [.agg [.bool q1, .sl q2]] := fun z h g => (hend' z hd h g).1
  have hend2 : ∀ z : Bool, (!(m == m')) = z → decide (0 ≤ i) = false → PCall Try.prog 106 [.agg [.bool m, .sl Rd]] fun r => r = [.agg [.bool q3, .sl q4]] := fun z g h => (hend' z hd h g).2
  clear hend'
  repeat' (first
    | (with_reducible refine Nm.mk ?_; intro z hz)
    | (with_reducible refine IfB.mk ?_ ?_ <;> (intro h; cases h))
    | (with_reducible refine Asm.mk ?_ ?_; focus kernel_rfl)
    | (with_reducible refine isCP hcp ?_; first | (refine xP hcp (tq) ?_; skip) | (refine xP hcp (tr) ?_; skip) | (refine xP hcp (one_l) ?_; skip) | (refine xP hcp (p1) ?_; skip) | (refine xP hcp (pq) ?_; skip) | (refine iP hcp (s2) ?_; intro z hz) | (refine iP hcp (s3) ?_; intro z hz) | (refine xP hcp (m2 _ (by assumption) (by assumption)) ?_; skip) | (refine xP hcp (m3 _ (by assumption) (by assumption)) ?_; skip) | (refine xP hcp (hend1 _ (by assumption) (by assumption)) ?_; skip) | (refine xP hcp (hend2 _ (by assumption) (by assumption)) ?_; skip))
    | (with_reducible refine isCC hcc ?_; first | (refine xA hcc (tq) rfl ?_; skip) | (refine xA hcc (tr) rfl ?_; skip) | (refine xA hcc (one_l) rfl ?_; skip) | (refine xA hcc (p1) rfl ?_; skip) | (refine xA hcc (pq) rfl ?_; skip) | (refine iA hcc (s2) rfl ?_; intro z hz) | (refine iA hcc (s3) rfl ?_; intro z hz) | (refine xA hcc (m2 _ (by assumption) (by assumption)) rfl ?_; skip) | (refine xA hcc (m3 _ (by assumption) (by assumption)) rfl ?_; skip) | (refine xA hcc (hend1 _ (by assumption) (by assumption)) rfl ?_; skip) | (refine xA hcc (hend2 _ (by assumption) (by assumption)) rfl ?_; skip))
    | (with_reducible refine Ix.map hX u32c_len (by decide) (hix (by assumption) _ (by assumption)).1 (hix (by assumption) _ (by assumption)).2 ?_; intro u hu)
    | (with_reducible refine Asm.mk2 ?_ ?_)
    | ((fail_if_success (with_reducible refine hQ _ ?_)); (fail_if_success (with_reducible refine Side.mk ?_)); (fail_if_success (with_reducible refine isCP hcp ?_)); (fail_if_success (with_reducible refine isCC hcc ?_)); (fail_if_success (with_reducible refine isLP hlp ?_)); (fail_if_success (with_reducible refine Ix.mk ?_)); (fail_if_success (with_reducible refine SIx.mk ?_)); (fail_if_success (with_reducible refine SEx.mk ?_)); (fail_if_success (with_reducible refine EIx.mk ?_)); (fail_if_success (with_reducible show False)); (fail_if_success (with_reducible refine hR ?_ _ ?_ ?_ ?_ ?_ ?_)); (fail_if_success (with_reducible refine hR2 ?_ _ ?_ ?_ ?_ ?_ ?_)); cbv))
  all_goals first
    | exact hQ _ rfl
    | (refine Side.mk ?_; decide)
    | exact Side.mk (hmod (by assumption) _ (by assumption))
    | (obtain ⟨g1, g2, g3⟩ := hnext (by assumption) _ hz
       have hb := hbit (by assumption) _ u _ _ _ (by assumption) hu (by assumption) (by assumption) (by assumption)
       first
         | (have e1 := of_decide_eq_true (show decide (_ = (1 : Int)) = true by assumption)
            rw [e1] at hb
            obtain ⟨ge, lt⟩ := hdstep (by assumption) 1 hb.symm
            first
              | (have h := hord _ _ _ (show ordI (r * 2 + 1) ay = _ by assumption) (by assumption)
                 exact hR (i - 1, _, _, Q3, R5) _ ⟨g2, ge (by omega) Q3 R5 hQ3 (by rw [show 2 * r + 1 - ay = r * 2 + 1 - ay by omega]; exact hR5)⟩ g3 ⟨g1 ▸ rfl, trivial⟩ ⟨rfl, rfl, rfl, rfl, rfl, rfl, rfl, rfl, trivial⟩ rfl)
              | (have h := hord' _ _ _ (show ordI (r * 2 + 1) ay = _ by assumption) (by assumption)
                 exact hR (i - 1, _, _, Q2, R3) _ ⟨g2, lt (by omega) Q2 R3 hQ2 (by rw [show 2 * r + 1 = r * 2 + 1 by omega]; exact hR3)⟩ g3 ⟨g1 ▸ rfl, trivial⟩ ⟨rfl, rfl, rfl, rfl, rfl, rfl, rfl, rfl, trivial⟩ rfl))
         | (have e1 := of_decide_eq_false (show decide (_ = (1 : Int)) = false by assumption)
            rw [hb] at e1
            obtain ⟨ge, lt⟩ := hdstep (by assumption) 0 (by omega)
            first
              | (have h := hord _ _ _ (show ordI (r * 2) ay = _ by assumption) (by assumption)
                 exact hR (i - 1, _, _, Q3, R4) _ ⟨g2, ge (by omega) Q3 R4 hQ3 (by rw [show 2 * r + 0 - ay = r * 2 - ay by omega]; exact hR4)⟩ g3 ⟨g1 ▸ rfl, trivial⟩ ⟨rfl, rfl, rfl, rfl, rfl, rfl, rfl, rfl, trivial⟩ rfl)
              | (have h := hord' _ _ _ (show ordI (r * 2) ay = _ by assumption) (by assumption)
                 exact hR (i - 1, _, _, Q2, R2) _ ⟨g2, lt (by omega) Q2 R2 hQ2 (by rw [show 2 * r + 0 = r * 2 by omega]; exact hR2')⟩ g3 ⟨g1 ▸ rfl, trivial⟩ ⟨rfl, rfl, rfl, rfl, rfl, rfl, rfl, rfl, trivial⟩ rfl)))
end Go.Proofs.Ytnhmnfokbinplaa
