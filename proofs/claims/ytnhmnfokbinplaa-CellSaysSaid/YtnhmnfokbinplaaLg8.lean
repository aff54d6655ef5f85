/- tallyref: numbers as lists of digits: plus. Own work; no condition. -/
import Derived.Test.YtnhmnfokbinplaaLg7
namespace Go.Proofs.Ytnhmnfokbinplaa
open Go Go.RowKit
set_option maxRecDepth 100000
set_option linter.unusedSimpArgs false
set_option linter.unusedVariables false

set_option maxHeartbeats 8000000 in
theorem plus1_c (x y : Int) (lx : (dig (uabs x)).length ≤ 900) (ly : (dig (uabs y)).length ≤ 900)
    (hrec : decide (x < 0) ≠ decide (y < 0) → uabs x < uabs y → PCall Try.prog 104 [.agg (longZ y), .agg (longZ x)] fun r => r = [.agg (longZ (x + y))]) : PCall Try.prog 104 [.agg (longZ x), .agg (longZ y)] fun r => r = [.agg (longZ (x + y))] := by
  have ox := okD_dig (uabs x)
  have oy := okD_dig (uabs y)
  have vx := lval_dig' (uabs_nn x)
  have vy := lval_dig' (uabs_nn y)
  have nx := uabs_nn x
  have ny := uabs_nn y
  have hadd := sgn_add (x := x) (y := y)
  have hsub := sgn_sub (x := x) (y := y)
  have hlen := dig_len_le ny (n := uabs x)
  have hsz := lsize_c (decide (x < 0)) (decide (y < 0)) (uabs x) (uabs y) nx ny (by omega) (by omega) _ _ rfl rfl
  obtain ⟨q1, q2, hQ0⟩ : ∃ q1 q2, longZ (x + y) = [.bool q1, .sl q2] := ⟨_, _, rfl⟩
  rw [hQ0] at hrec ⊢
  unfold longZ longD at hrec ⊢
  obtain ⟨m, hm⟩ : ∃ m, decide (x < 0) = m := ⟨_, rfl⟩
  obtain ⟨m', hm'⟩ : ∃ m, decide (y < 0) = m := ⟨_, rfl⟩
  rw [hm, hm'] at hrec hadd hsub hsz ⊢
  generalize hdx : dig (uabs x) = dx at *
  generalize hdy : dig (uabs y) = dy at *
  obtain ⟨X, hX⟩ : ∃ X, dx.map u32c = X := ⟨_, rfl⟩
  obtain ⟨Y, hY⟩ : ∃ Y, dy.map u32c = Y := ⟨_, rfl⟩
  rw [hX, hY] at hsz hrec ⊢
  have h1 : X.length = dx.length := by rw [← hX]; simp
  have h2 : Y.length = dy.length := by rw [← hY]; simp
  have hM : ∃ M : Nat, dx.length ≤ M ∧ dy.length ≤ M ∧ M ≤ 900 := ⟨900, by omega, by omega, by omega⟩
  obtain ⟨M, hM1, hM2, hM3⟩ := hM
  -- what is handed back
  have key1 : (m == m') = true → ∀ (i c : Int) (L : List (List PV)) (k : Nat), PI dx dy M i c L k → ¬ i < dx.length → ¬ i < dy.length → ¬ 0 < c → PCall Try.prog 106 [.agg [.bool m, .sl L]] fun r => r = [.agg [.bool q1, .sl q2]] := by
    intro he i c L k h g1 g2 g3
    obtain ⟨o, oo, oL, ol, ov⟩ := h.stop g1 g2 g3 hM3
    have := trim_c m o oo L oL ol
    rw [ov, vx, vy, hadd (by simpa using he), hQ0] at this
    exact this
  have key2 : (m == m') = false → uabs y ≤ uabs x → ∀ (i b : Int) (L : List (List PV)) (k : Nat), MI dx dy i b L k → ¬ i < dx.length → PCall Try.prog 106 [.agg [.bool m, .sl L]] fun r => r = [.agg [.bool q1, .sl q2]] := by
    intro he hv i b L k h g1
    obtain ⟨o, oo, oL, ol, ov⟩ := h.stop g1 (hlen hv) (by rw [vx, vy]; exact hv) lx
    have := trim_c m o oo L oL ol
    rw [ov, vx, vy, hsub (by intro e; rw [e] at he; simp at he), hQ0] at this
    exact this
  have key3 : ∀ a : Int, ordI (uabs x) (uabs y) = a → decide (a < 0) = true → uabs x < uabs y := by
    intro a ha h; rw [← ha] at h; unfold ordI at h
    split at h
    · assumption
    · split at h <;> simp at h
  have key4 : ∀ a : Int, ordI (uabs x) (uabs y) = a → decide (a < 0) = false → uabs y ≤ uabs x := by
    intro a ha h; rw [← ha] at h; unfold ordI at h
    split at h
    · simp at h
    · omega
  have hrec' : ∀ a : Int, (m == m') = false → ordI (uabs x) (uabs y) = a → decide (a < 0) = true → PCall Try.prog 104 [.agg [.bool m', .sl Y], .agg [.bool m, .sl X]] fun r => r = [.agg [.bool q1, .sl q2]] := by
    intro a he ha h
    exact hrec (by intro e; rw [e] at he; simp at he) (key3 a ha h)
  have dxc := digit_c m dx X hX
  have dyc := digit_c m' dy Y hY
  have start1 : PI dx dy M 0 0 [] 0 := ⟨by omega, by omega, fun _ => rfl, ⟨[], PlusI.start _ _, rfl⟩, rfl⟩
  have start2 : MI dx dy 0 0 [] 0 := ⟨by omega, by omega, ⟨[], MinusI.start _ _, rfl⟩, rfl⟩
  clear hrec hlen hadd hsub hdx hdy
  refine PCall.x (nt := 99) (res := [.cell 4 134]) mixed tt_ok [] Try.func104 rfl rfl rfl c104 (Nat.le_of_ble_eq_true rfl) ?_
  intro cp cc lp Q' hcp hcc hlp hQ
  repeat' (first
    | (with_reducible refine Nm.mk ?_; intro z hz)
    | (with_reducible refine IfB.mk ?_ ?_ <;> (intro h; cases h))
    | (with_reducible refine Asm.mk ?_ ?_; focus (first | kernel_rfl | decide))
    | (with_reducible refine isCP hcp ?_; first | (refine iP hcp (hsz) ?_; intro z hz) | (refine xP hcp (hrec' _ (by assumption) (by assumption) (by assumption)) ?_; skip))
    | (with_reducible refine isCC hcc ?_; first | (refine iA hcc (hsz) rfl ?_; intro z hz) | (refine xA hcc (hrec' _ (by assumption) (by assumption) (by assumption)) rfl ?_; skip))
    | (with_reducible refine Asm.mk2 ?_ ?_)
    | ((fail_if_success (with_reducible refine hQ _ ?_)); (fail_if_success (with_reducible refine Side.mk ?_)); (fail_if_success (with_reducible refine isCP hcp ?_)); (fail_if_success (with_reducible refine isCC hcc ?_)); (fail_if_success (with_reducible refine isLP hlp ?_)); (fail_if_success (with_reducible refine Ix.mk ?_)); (fail_if_success (with_reducible refine SIx.mk ?_)); (fail_if_success (with_reducible refine SEx.mk ?_)); (fail_if_success (with_reducible refine EIx.mk ?_)); (fail_if_success (with_reducible show False)); (fail_if_success (with_reducible refine hR ?_ _ ?_ ?_ ?_ ?_ ?_)); (fail_if_success (with_reducible refine hR2 ?_ _ ?_ ?_ ?_ ?_ ?_)); cbv))
  · have he : (m == m') = true := by assumption
    clear key2 key3 key4 hrec' hsz
    refine mintX hlp 1 3 1 rfl rfl ?_
    refine loopT (ι := Int × Int × List (List PV) × Nat) mixed tt_ok hcp hcc hlp [2, 3, 4, 5] (fun p => [(6, .p (.int .u32 p.2.1)), (7, .p (.int .i64 p.1))])
      (fun p => [.cells [.p (.bool m), .p (.sl X)], .cells [.p (.bool m'), .p (.sl Y)], .cells [.p (.bool false), .full []], .cells [.p (.bool m), .tok 4 p.2.2.1], .spare p.2.2.2 1])
      (fun p => PI dx dy M p.1 p.2.1 p.2.2.1 p.2.2.2) (fun p => (M + 2 - p.1).toNat) (0, 0, [], 0) 5 (fun _ => rfl) start1 ⟨rfl, rfl, trivial⟩ rfl ?_
    rintro R ⟨i, c, L, k⟩ hi hR
    have hi : PI dx dy M i c L k := hi
    have hi0 := hi.i0
    have hi1 := hi.i1
    have hk := hi.len
    have hok : okEs 1 L = true := by obtain ⟨o, _, hL⟩ := hi.o; rw [← hL]; exact ok_u32 o
    have hsd : k = L.length ∧ 1 = 1 ∧ okEs 1 L = true := ⟨hk.symm, rfl, hok⟩
    have hLl : L.length + 1 ≤ maxLen ∧ (L.length + 1) * 4 ≤ 140737488355328 := by
      obtain ⟨o, ho, hL⟩ := hi.o
      have : L.length = i.toNat := by rw [← hL, List.length_map, ho.len]
      exact ⟨by simp only [maxLen]; omega, by omega⟩
    have key : ∀ z1 z2 : Int, (X.length : Int) = z1 → decide (i < z1) = false → (Y.length : Int) = z2 → decide (i < z2) = false → decide (0 < c) = false → PCall Try.prog 106 [.agg [.bool m, .sl L]] fun r => r = [.agg [.bool q1, .sl q2]] := by
      intro z1 z2 a1 a2 a3 a4 a5
      simp only [decide_eq_false_iff_not] at a2 a4 a5
      exact key1 he i c L k hi (by show ¬ i < (dx.length : Int); omega) (by show ¬ i < (dy.length : Int); omega) a5
    have hc1 : ∀ z1 : Int, (X.length : Int) = z1 → decide (i < z1) = true → i < M ∨ 0 < c := by intro z1 a1 a2; simp only [decide_eq_true_eq] at a2; omega
    have hc2 : ∀ z1 : Int, (Y.length : Int) = z1 → decide (i < z1) = true → i < M ∨ 0 < c := by intro z1 a1 a2; simp only [decide_eq_true_eq] at a2; omega
    have hc3 : decide (0 < c) = true → i < M ∨ 0 < c := fun h => .inr (of_decide_eq_true h)
    have hstep : (i < M ∨ 0 < c) → ∀ a b s t e g j : Int, (dx[i.toNat]?).getD 0 = a → (dy[i.toNat]?).getD 0 = b → IntKind.u32.wrap (a + b) = s → IntKind.u32.wrap (c + s) = t → IntKind.u32.wrap ((BitVec.ofInt IntKind.u32.bits t &&& BitVec.ofInt IntKind.u32.bits 65535).toNat : Int) = e →
        t.fdiv (2 ^ (min (16 : Int).toNat IntKind.u32.bits)) = g → IntKind.i64.wrap (i + 1) = j → PI dx dy M (i + 1) g (L ++ [[.int .u32 e]]) (k + 1) ∧ j = i + 1 ∧ (M + 2 - (i + 1)).toNat < (M + 2 - i).toNat := by
      intro hc a b s t e g j h1 h2 h3 h4 h5 h6 h7
      obtain ⟨st, r0, r1⟩ := hi.step ox oy hM1 hM2 hc h1 h2
      have ra := okD_get ox i.toNat
      have rb := okD_get oy i.toNat
      rw [h1] at ra
      rw [h2] at rb
      rw [IntWalk.u32_in _ (by omega)] at h3
      subst h3
      rw [IntWalk.u32_in _ (by omega)] at h4
      subst h4
      rw [and16v _ ⟨r0, r1⟩] at h5
      rw [shr16v] at h6
      rw [wrap_in (by omega)] at h7
      subst h5 h6
      exact ⟨st, h7.symm, by omega⟩
    repeat' (first
      | (with_reducible refine Nm.mk ?_; intro z hz)
      | (with_reducible refine IfB.mk ?_ ?_ <;> (intro h; cases h))
      | (with_reducible refine Asm.mk ?_ ?_; focus (first | kernel_rfl | decide))
      | (with_reducible refine isCP hcp ?_; first | (refine iP hcp (dxc i hi0) ?_; intro z hz) | (refine iP hcp (dyc i hi0) ?_; intro z hz) | (refine xP hcp (key _ _ (by assumption) (by assumption) (by assumption) (by assumption) (by assumption)) ?_; skip))
      | (with_reducible refine isCC hcc ?_; first | (refine iA hcc (dxc i hi0) rfl ?_; intro z hz) | (refine iA hcc (dyc i hi0) rfl ?_; intro z hz) | (refine xA hcc (key _ _ (by assumption) (by assumption) (by assumption) (by assumption) (by assumption)) rfl ?_; skip))
      | (with_reducible refine Asm.mk2 ?_ ?_)
      | ((fail_if_success (with_reducible refine hQ _ ?_)); (fail_if_success (with_reducible refine Side.mk ?_)); (fail_if_success (with_reducible refine isCP hcp ?_)); (fail_if_success (with_reducible refine isCC hcc ?_)); (fail_if_success (with_reducible refine isLP hlp ?_)); (fail_if_success (with_reducible refine Ix.mk ?_)); (fail_if_success (with_reducible refine SIx.mk ?_)); (fail_if_success (with_reducible refine SEx.mk ?_)); (fail_if_success (with_reducible refine EIx.mk ?_)); (fail_if_success (with_reducible show False)); (fail_if_success (with_reducible refine hR ?_ _ ?_ ?_ ?_ ?_ ?_)); (fail_if_success (with_reducible refine hR2 ?_ _ ?_ ?_ ?_ ?_ ?_)); cbv))
    all_goals first
      | exact Side.mk ⟨hsd.1, hsd.2.1, hsd.2.2, rfl, hLl.1, hLl.2⟩
      | (refine Side.mk ?_; decide)
      | exact hQ _ rfl
      | (have hc : i < M ∨ 0 < c := by first | exact hc1 _ (by assumption) (by assumption) | exact hc2 _ (by assumption) (by assumption) | exact hc3 (by assumption)
         rename_i y1 hy1 y2 hy2 y3 hy3 y4 hy4
         obtain ⟨g1, g2, g3⟩ := hstep hc _ _ _ _ _ _ _ (by assumption) (by assumption) (by assumption) (by assumption) hy1 hy4 hz
         exact hR (i + 1, y4, y2, y3) _ (by show PI dx dy M (i + 1) y4 y2 y3; rw [← hy2, ← hy3, ← hsd.1]; exact g1) g3 ⟨rfl, g2 ▸ rfl, trivial⟩ ⟨rfl, rfl, rfl, rfl, trivial⟩ rfl)
  · exact hQ _ rfl
  · have he : (m == m') = false := by assumption
    have hv := key4 _ (by assumption) (by assumption)
    have hzl := hz
    clear key1 key3 key4 hrec' hsz hz
    rename Int => zl
    have key2' := key2 he hv
    refine mintX hlp 1 3 1 rfl rfl ?_
    refine loopT (ι := Int × Int × List (List PV) × Nat) mixed tt_ok hcp hcc hlp [2, 3, 4, 8, 69, 70] (fun p => [(9, .p (.int .u32 p.2.1)), (71, .p (.int .i64 p.1))])
      (fun p => [.cells [.p (.bool m), .p (.sl X)], .cells [.p (.bool m'), .p (.sl Y)], .cells [.p (.bool false), .full []], .cells [.p (.bool m), .tok 4 p.2.2.1], .spare p.2.2.2 1])
      (fun p => MI dx dy p.1 p.2.1 p.2.2.1 p.2.2.2) (fun p => (zl - p.1).toNat) (0, 0, [], 0) 5 (fun _ => rfl) start2 ⟨rfl, rfl, trivial⟩ rfl ?_
    rintro R ⟨i, b, L, k⟩ hi hR
    have hi : MI dx dy i b L k := hi
    have hi0 := hi.i0
    have hi1 : i ≤ (dx.length : Int) := hi.i1
    have hk := hi.len
    have hzl : (X.length : Int) = zl := hzl
    have hok : okEs 1 L = true := by obtain ⟨o, _, hL⟩ := hi.o; rw [← hL]; exact ok_u32 o
    have hsd : k = L.length ∧ 1 = 1 ∧ okEs 1 L = true := ⟨hk.symm, rfl, hok⟩
    have hLl : L.length + 1 ≤ maxLen ∧ (L.length + 1) * 4 ≤ 140737488355328 := by
      obtain ⟨o, ho, hL⟩ := hi.o
      have : L.length = i.toNat := by rw [← hL, List.length_map, ho.len]
      exact ⟨by simp only [maxLen]; omega, by omega⟩
    have key : decide (i < zl) = false → PCall Try.prog 106 [.agg [.bool m, .sl L]] fun r => r = [.agg [.bool q1, .sl q2]] := by
      intro a2
      simp only [decide_eq_false_iff_not] at a2
      exact key2' i b L k hi (by show ¬ i < (dx.length : Int); omega)
    have hkx : decide (i < zl) = true → i < dx.length := by intro h; simp only [decide_eq_true_eq] at h; omega
    have hstep : decide (i < zl) = true → ∀ x y a s t e g h j : Int, dx[i.toNat]? = some x → (dy[i.toNat]?).getD 0 = y → IntKind.u32.wrap (x + 65536) = a → IntKind.u32.wrap (a - y) = s → IntKind.u32.wrap (s - b) = t → IntKind.u32.wrap ((BitVec.ofInt IntKind.u32.bits t &&& BitVec.ofInt IntKind.u32.bits 65535).toNat : Int) = e →
        t.fdiv (2 ^ (min (16 : Int).toNat IntKind.u32.bits)) = g → IntKind.u32.wrap (1 - g) = h → IntKind.i64.wrap (i + 1) = j → MI dx dy (i + 1) h (L ++ [[.int .u32 e]]) (k + 1) ∧ j = i + 1 ∧ (zl - (i + 1)).toNat < (zl - i).toNat := by
      intro hc x y a s t e g h j h1 h2 h3 h4 h5 h6 h7 h8 h9
      have hlt := hkx hc
      simp only [decide_eq_true_eq] at hc
      obtain ⟨st, rx, ry, b0, b1⟩ := hi.step ox oy hlt h1 h2
      rw [IntWalk.u32_in _ (by omega)] at h3
      subst h3
      rw [IntWalk.u32_in _ (by omega)] at h4
      subst h4
      rw [IntWalk.u32_in _ (by omega)] at h5
      subst h5
      rw [and16v _ (by omega)] at h6
      rw [shr16v] at h7
      subst h6 h7
      rw [IntWalk.u32_in _ (by omega)] at h8
      rw [wrap_in (by omega)] at h9
      subst h8
      exact ⟨st, h9.symm, by omega⟩
    repeat' (first
      | (with_reducible refine Nm.mk ?_; intro z hz)
      | (with_reducible refine IfB.mk ?_ ?_ <;> (intro h; cases h))
      | (with_reducible refine Asm.mk ?_ ?_; focus kernel_rfl)
      | (with_reducible refine isCP hcp ?_; first | (refine iP hcp (dyc i hi0) ?_; intro z hz) | (refine xP hcp (key (by assumption)) ?_; skip))
      | (with_reducible refine isCC hcc ?_; first | (refine iA hcc (dyc i hi0) rfl ?_; intro z hz) | (refine xA hcc (key (by assumption)) rfl ?_; skip))
      | (with_reducible refine Ix.map hX u32c_len (by decide) hi0 (hkx (by assumption)) ?_; intro x' hx')
      | (with_reducible refine Asm.mk2 ?_ ?_)
      | ((fail_if_success (with_reducible refine hQ _ ?_)); (fail_if_success (with_reducible refine Side.mk ?_)); (fail_if_success (with_reducible refine isCP hcp ?_)); (fail_if_success (with_reducible refine isCC hcc ?_)); (fail_if_success (with_reducible refine isLP hlp ?_)); (fail_if_success (with_reducible refine Ix.mk ?_)); (fail_if_success (with_reducible refine SIx.mk ?_)); (fail_if_success (with_reducible refine SEx.mk ?_)); (fail_if_success (with_reducible refine EIx.mk ?_)); (fail_if_success (with_reducible show False)); (fail_if_success (with_reducible refine hR ?_ _ ?_ ?_ ?_ ?_ ?_)); (fail_if_success (with_reducible refine hR2 ?_ _ ?_ ?_ ?_ ?_ ?_)); cbv))
    all_goals first
      | exact Side.mk ⟨hsd.1, hsd.2.1, hsd.2.2, rfl, hLl.1, hLl.2⟩
      | (refine Side.mk ?_; decide)
      | exact hQ _ rfl
      | (rename_i y1 hy1 y2 hy2 y3 hy3 y4 hy4 y5 hy5
         obtain ⟨g1, g2, g3⟩ := hstep (by assumption) _ _ _ _ _ _ _ _ _ hx' (by assumption) (by assumption) (by assumption) (by assumption) hy1 hy4 hy5 hz
         exact hR (i + 1, y5, y2, y3) _ (by show MI dx dy (i + 1) y5 y2 y3; rw [← hy2, ← hy3, ← hsd.1]; exact g1) g3 ⟨rfl, g2 ▸ rfl, trivial⟩ ⟨rfl, rfl, rfl, rfl, rfl, rfl, trivial⟩ rfl)
theorem plus_c (x y : Int) (lx : (dig (uabs x)).length ≤ 900) (ly : (dig (uabs y)).length ≤ 900) : PCall Try.prog 104 [.agg (longZ x), .agg (longZ y)] fun r => r = [.agg (longZ (x + y))] :=
  plus1_c x y lx ly fun h1 h2 => by
    have := plus1_c y x ly lx fun _ h => by omega
    rw [Int.add_comm y x] at this
    exact this
end Go.Proofs.Ytnhmnfokbinplaa
