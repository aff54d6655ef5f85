/- CellRows: the law; CellKeys: the walk and the law. Own work; no condition. -/
import Derived.Test.YtnhmnfokbinplaaDoorKb46
import Derived.Test.YtnhmnfokbinplaaDoorKb43
import Derived.Test.YtnhmnfokbinplaaDoorRdU
import Derived.Test.YtnhmnfokbinplaaDoorKb44
import Derived.Test.YtnhmnfokbinplaaDoorAbs24
namespace Go.Proofs.YtnhmnfokbinplaaDoor
open Go Go.RowKit
set_option maxRecDepth 100000
set_option linter.unusedSimpArgs false
set_option linter.unusedVariables false

theorem keyV_len (v : Val) : (keyV (clean v)).length ≤ 3 * (v.s.size + 3) := by
  rw [clean]
  split
  · rw [show (⟨1, v.n, ⟨#[]⟩⟩ : Val) = num v.n from rfl, keyV_num, List.length_cons, bytesN, List.length_map, List.length_range]; omega
  · split
    · have := escL_len (byts v.s)
      rw [byts_len] at this
      rw [show (⟨2, 0, v.s⟩ : Val) = str v.s from rfl, keyV_str, List.length_cons, List.length_append]
      show (escL (byts v.s)).length + 2 + 1 ≤ _
      omega
    · show 1 ≤ _
      omega
theorem keyL_len : ∀ A : List Val, (keyL A).length ≤ 3 * bkLL (A.map Val.cells)
  | [] => Nat.zero_le _
  | v :: r => by
    have h1 := keyL_len r
    have h2 := keyV_len v
    have e : keyL (v :: r) = keyV (clean v) ++ keyL r := by rw [show v :: r = [v] ++ r from rfl, keyL_app, keyL_one]
    rw [e, List.length_append, List.map_cons, bkLL]
    have h3 : bkL v.cells = v.s.size + 3 := by simp only [Val.cells, bkL, bk]; omega
    omega
end Go.Proofs.YtnhmnfokbinplaaDoor

namespace Go.Proofs.YtnhmnfokbinplaaDoor
open Go Go.RowKit
set_option maxRecDepth 100000
set_option linter.unusedSimpArgs false
set_option linter.unusedVariables false

theorem ksameRow_c (V : List Val) (L : List (List PV)) (hL : V.map Val.cells = L) (hs : V.length ≤ 140737488355328) : PCall Tryd.prog 11 [.sl L, .sl L] fun r => r = [.bool true] := by
  have b1 : L.length = V.length := by rw [← hL]; simp
  refine PCall.x (nt := 26) (res := [.tmp 4]) mixed tt_ok [] Tryd.func11 rfl rfl rfl c11 (Nat.le_of_ble_eq_true rfl) ?_
  intro cp cc lp Q' hcp hcc hlp hQ
  repeat' (first
    | (with_reducible refine Nm.mk ?_; intro z hz)
    | (with_reducible refine IfB.mk ?_ ?_ <;> (intro h; cases h))
    | (with_reducible refine Two.l ?_; refine Asm.mk ?_ ?_; focus (decide +kernel))
    | (with_reducible refine Two.r ?_)
    | (with_reducible refine TwoT.r ?_)
    | (with_reducible refine Asm.mk ?_ ?_; focus (first | kernel_rfl | decide))
    | (with_reducible refine Asm.mk2 ?_ ?_)
    | ((fail_if_success (with_reducible first | refine hQ _ ?_ | refine Side.mk ?_ | refine isCP hcp ?_ | refine isCC hcc ?_ | refine isLP hlp ?_ | refine Ix.mk ?_ | refine SIx.mk ?_ | refine SEx.mk ?_ | refine EIx.mk ?_ | refine RIx.mk ?_ | show False | refine hR ?_ _ ?_ ?_ ?_ ?_ ?_ | refine hR2 ?_ _ ?_ ?_ ?_ ?_ ?_)); cbv))
  all_goals first
    | (exfalso; clear hcp hcc hlp hQ; subst_vars; simp_all; done)
    | skip
  all_goals (
    simp only [nc] at hz
    simp only [nc'] at hz
    refine loopK (ι := Int) mixed tt_ok hcp hcc hlp [0, 1, 12] (fun i => [(13, .p (.int .i64 i))]) (fun i => 0 ≤ i ∧ i ≤ z) (fun i => (z - i).toNat) 0 (fun _ => rfl) (by omega) ⟨rfl, trivial⟩ ?_
    intro R i hi hR
    have hi0 : 0 ≤ i := hi.1
    have hkl : decide (i < z) = true → i < V.length := by simp only [decide_eq_true_eq]; omega
    have hst : decide (i < z) = true → IntKind.i64.wrap (i + 1) = i + 1 ∧ (0 ≤ i + 1 ∧ i + 1 ≤ z) ∧ (z - (i + 1)).toNat < (z - i).toNat := by
      intro h
      simp only [decide_eq_true_eq] at h
      exact ⟨wrap_in (by omega), by omega, by omega⟩)
  repeat' (first
    | (with_reducible refine Nm.mk ?_; intro z hz)
    | (with_reducible refine IfB.mk ?_ ?_ <;> (intro h; cases h))
    | (with_reducible refine Two.l ?_; refine Asm.mk ?_ ?_; focus (decide +kernel))
    | (with_reducible refine Two.r ?_)
    | (with_reducible refine TwoT.r ?_)
    | (with_reducible refine Asm.mk ?_ ?_; focus kernel_rfl)
    | (with_reducible refine Ix.map hL cells_len (by decide) hi0 (hkl (by assumption)) ?_; intro x hx)
    | (with_reducible refine Asm.mk2 ?_ ?_)
    | ((fail_if_success (with_reducible first | refine hQ _ ?_ | refine Side.mk ?_ | refine isCP hcp ?_ | refine isCC hcc ?_ | refine isLP hlp ?_ | refine Ix.mk ?_ | refine SIx.mk ?_ | refine SEx.mk ?_ | refine EIx.mk ?_ | refine RIx.mk ?_ | show False | refine hR ?_ _ ?_ ?_ ?_ ?_ ?_ | refine hR2 ?_ _ ?_ ?_ ?_ ?_ ?_)); cbv))
  all_goals first
    | (exfalso; simp_all [sbeq_eq, eqB, eq1]; done)
    | (obtain ⟨e1, e2, e3⟩ := hst (by assumption)
       rw [e1] at hz
       exact hR (i + 1) _ e2 e3 ⟨hz ▸ rfl, trivial⟩ ⟨rfl, rfl, rfl, trivial⟩ rfl)
    | exact hQ _ rfl
theorem kclean_c (A : List Val) (CA : List (List PV)) (hA : A.map Val.cells = CA) (ha : A.length ≤ 1048577) (L2 : List (List PV)) (hL2 : (A.map clean).map Val.cells = L2) : PCall Tryd.prog 12 [.sl CA] fun r => r = [.sl L2] := by
  have hAl : CA.length = A.length := by rw [← hA]; simp
  refine PCall.x (nt := 19) (res := [.tmp 2]) mixed tt_ok [] Tryd.func12 rfl rfl rfl c12 (Nat.le_of_ble_eq_true rfl) ?_
  intro cp cc lp Q' hcp hcc hlp hQ
  repeat' (first
    | (with_reducible refine Nm.mk ?_; intro z hz)
    | (with_reducible refine IfB.mk ?_ ?_ <;> (intro h; cases h))
    | (with_reducible refine Two.l ?_; refine Asm.mk ?_ ?_; focus (decide +kernel))
    | (with_reducible refine Two.r ?_)
    | (with_reducible refine TwoT.r ?_)
    | (with_reducible refine Asm.mk ?_ ?_; focus (first | kernel_rfl | decide))
    | (with_reducible refine Asm.mk2 ?_ ?_)
    | ((fail_if_success (with_reducible first | refine hQ _ ?_ | refine Side.mk ?_ | refine isCP hcp ?_ | refine isCC hcc ?_ | refine isLP hlp ?_ | refine Ix.mk ?_ | refine SIx.mk ?_ | refine SEx.mk ?_ | refine EIx.mk ?_ | refine RIx.mk ?_ | show False | refine hR ?_ _ ?_ ?_ ?_ ?_ ?_ | refine hR2 ?_ _ ?_ ?_ ?_ ?_ ?_)); cbv))
  simp only [nc] at hz
  simp only [nc'] at hz
  have hzl := lenZ (n := A.length) hAl hz
  clear hz
  generalize z = zl at *
  refine mintT hlp 3 3 rfl ?_
  refine loopT (ι := Int × List (List PV) × Nat) mixed tt_ok hcp hcc hlp [6, 7] (fun p => [(3, .tok 0 p.2.1), (8, .p (.int .i64 p.1))]) (fun p => [.spare p.2.2 3]) (fun p => Rng A.length zl p.1 ∧ p.2.1 = ((A.take p.1.toNat).map clean).map Val.cells ∧ p.2.1.length = p.2.2) (fun p => (zl - p.1).toNat) (0, [], 0) 1 (fun _ => rfl) ⟨Rng.start hzl (by omega), rfl, rfl⟩ ⟨rfl, rfl, trivial⟩ rfl ?_
  rintro R ⟨i, L, m⟩ ⟨rg, hL, hm⟩ hR
  replace rg : Rng A.length zl i := rg
  replace hL : L = ((A.take i.toNat).map clean).map Val.cells := hL
  replace hm : L.length = m := hm
  have hok : okEs 3 L = true := by rw [hL]; exact cell_ok _
  have hll : L.length ≤ 1048577 := by rw [hL, List.length_map, List.length_map]; exact Nat.le_trans (List.length_take_le' _ _) (by omega)
  repeat' (first
    | (with_reducible refine Nm.mk ?_; intro z hz)
    | (with_reducible refine IfB.mk ?_ ?_ <;> (intro h; cases h))
    | (with_reducible refine Two.l ?_; refine Asm.mk ?_ ?_; focus (decide +kernel))
    | (with_reducible refine Two.r ?_)
    | (with_reducible refine TwoT.r ?_)
    | (with_reducible refine Asm.mk ?_ ?_; focus (first | (refine ⟨hm.symm, rfl, hok, rfl, ?_, ?_⟩ <;> (clear hR hQ; simp only [List.length_cons, List.length_nil, maxLen]; omega)) | (show (_ : Bool) = true; kernel_rfl)))
    | (with_reducible refine isCP hcp ?_; first | (refine vP hcp (clean_c _ _ _) ?_; intro v hv))
    | (with_reducible refine isCC hcc ?_; first | (refine vA hcc (clean_c _ _ _) rfl ?_; intro v hv))
    | (with_reducible refine Ix.rv hA rg.lo (rg.ltN (by assumption)) ?_; intro k n s hx0)
    | (with_reducible refine Asm.mk2 ?_ ?_)
    | ((fail_if_success (with_reducible first | refine hQ _ ?_ | refine Side.mk ?_ | refine isCP hcp ?_ | refine isCC hcc ?_ | refine isLP hlp ?_ | refine Ix.mk ?_ | refine SIx.mk ?_ | refine SEx.mk ?_ | refine EIx.mk ?_ | refine RIx.mk ?_ | show False | refine hR ?_ _ ?_ ?_ ?_ ?_ ?_ | refine hR2 ?_ _ ?_ ?_ ?_ ?_ ?_)); cbv))
  · rename_i L1 h1 m1 hm1
    have hlt : decide (i < zl) = true := by assumption
    rw [rg.wrap hlt] at hz
    subst hz
    refine hR (i + 1, L1, m1) _ ⟨rg.next hlt, ?_, by show L1.length = m1; rw [← h1, ← hm1, List.length_append]⟩ (rg.less hlt) ⟨rfl, rfl, trivial⟩ ⟨rfl, rfl, trivial⟩ rfl
    show L1 = ((A.take (i + 1).toNat).map clean).map Val.cells
    rw [rg.take hx0, List.map_append, List.map_append, ← hL, ← h1, ← hv]; rfl
  · refine hQ _ ?_
    rw [rg.take_ rfl (by assumption), hL2] at hL
    rw [hL]
theorem ksign_c (less same : Bool) : PCall Tryd.prog 10 [.bool less, .bool same] fun r => r = [.int .i64 (cmpB_o less same)] := by
  refine PCall.x (nt := 7) (res := [.tmp 4]) mixed tt_ok [] Tryd.func10 rfl rfl rfl c10 (Nat.le_of_ble_eq_true rfl) ?_
  intro cp cc lp Q' hcp hcc hlp hQ
  repeat' (first
    | (with_reducible refine Nm.mk ?_; intro z hz)
    | (with_reducible refine IfB.mk ?_ ?_ <;> (intro h; cases h))
    | (with_reducible refine Two.l ?_; refine Asm.mk ?_ ?_; focus (decide +kernel))
    | (with_reducible refine Two.r ?_)
    | (with_reducible refine TwoT.r ?_)
    | (with_reducible refine Asm.mk ?_ ?_; focus (first | kernel_rfl | decide))
    | (with_reducible refine Asm.mk2 ?_ ?_)
    | ((fail_if_success (with_reducible first | refine hQ _ ?_ | refine Side.mk ?_ | refine isCP hcp ?_ | refine isCC hcc ?_ | refine isLP hlp ?_ | refine Ix.mk ?_ | refine SIx.mk ?_ | refine SEx.mk ?_ | refine EIx.mk ?_ | refine RIx.mk ?_ | show False | refine hR ?_ _ ?_ ?_ ?_ ?_ ?_ | refine hR2 ?_ _ ?_ ?_ ?_ ?_ ?_)); cbv))
  all_goals (refine hQ _ ?_; clear hQ hcp hcc hlp; rfl)
theorem cellKeys_c (A B : List Val) (CA CB : List (List PV)) (hA : A.map Val.cells = CA) (hB : B.map Val.cells = CB) (ha : A.length ≤ 1048577) (hb : B.length ≤ 1048577)
    (hsA : ∀ v, v ∈ A → v.s.size ≤ 1048577) (hsB : ∀ v, v ∈ B → v.s.size ≤ 1048577) (hKA : (keyL A).length ≤ 4000000) (hKB : (keyL B).length ≤ 4000000) (oA : ∀ v, v ∈ A → i64ok v.n) (oB : ∀ v, v ∈ B → i64ok v.n) : PCall Tryd.prog 4 [.sl CA, .sl CB] fun r => r = [.bool true] := by
  have h1 := crows_c A B CA CB hA hB (by omega) (by omega)
  have h3 := crows_c B A CB CA hB hA (by omega) (by omega)
  have k1 := ckey_c A CA hA (by omega) hsA (by omega) rep_c
  have k2 := ckey_c B CB hB (by omega) hsB (by omega) rep_c
  have hrow := row_c (toB (keyL A)) (by rw [← byts_len, byts_toB]; exact hKA)
  rw [byts_toB, rowM_key A oA] at hrow
  obtain ⟨L2, hL2⟩ : ∃ L2, (A.map clean).map Val.cells = L2 := ⟨_, rfl⟩
  rw [show rowOut (some (A.map clean)) = [.sl ((A.map clean).map Val.cells), .int .i64 0] from rfl, hL2] at hrow
  have hcl := kclean_c A CA hA ha L2 hL2
  have hsr := ksameRow_c (A.map clean) L2 hL2 (by rw [List.length_map]; omega)
  have hsg : ∀ {p1 p2 : Bool}, sless (toB (keyL A)) (toB (keyL B)) = p1 → sbeq (toB (keyL A)) (toB (keyL B)) = p2 → PCall Tryd.prog 10 [.bool p1, .bool p2] fun r => r = [.int .i64 (rowsV A B)] := by
    rintro _ _ rfl rfl
    have h := ksign_c (sless (toB (keyL A)) (toB (keyL B))) (sbeq (toB (keyL A)) (toB (keyL B)))
    rw [cmp_str_o] at h
    rw [show cmpS (toB (keyL A)) (toB (keyL B)) = Lib.compareBytes (keyL A) (keyL B) from rfl, cmp_rows A B oA oB] at h
    exact h
  have hfl := rowsV_flip A B
  have hsm := rowsV_small A B
  rw [hfl] at h3
  generalize rowsV A B = p at *
  generalize toB (keyL A) = x at *
  generalize toB (keyL B) = y at *
  obtain ⟨q, hq⟩ : ∃ q, -p = q := ⟨_, rfl⟩
  rw [hq] at h3
  have hw : IntKind.i64.wrap (0 - q) = p := by rw [show 0 - q = p by omega]; exact wrap_in (by omega)
  clear hfl hKA hKB hsA hsB oA oB
  refine PCall.x (nt := 49) (res := [.tmp 4]) mixed tt_ok [] Tryd.func4 rfl rfl rfl c4 (Nat.le_of_ble_eq_true rfl) ?_
  intro cp cc lp Q' hcp hcc hlp hQ
  repeat' (first
    | (with_reducible refine Nm.mk ?_; intro z hz)
    | (with_reducible refine IfB.mk ?_ ?_ <;> (intro h; cases h))
    | (with_reducible refine Two.l ?_; refine Asm.mk ?_ ?_; focus (decide +kernel))
    | (with_reducible refine Two.r ?_)
    | (with_reducible refine TwoT.r ?_)
    | (with_reducible refine Asm.mk ?_ ?_; focus (first | kernel_rfl | decide))
    | (with_reducible refine isCP hcp ?_; first | (refine xP hcp (k1) ?_; skip) | (refine xP hcp (k2) ?_; skip) | (refine xP hcp (hrow) ?_; skip) | (refine xP hcp (hsg (by assumption) (by assumption)) ?_; skip) | (refine xP hcp (h1) ?_; skip) | (refine xP hcp (h3) ?_; skip) | (refine xP hcp (hcl) ?_; skip) | (refine xP hcp (hsr) ?_; skip))
    | (with_reducible refine isCC hcc ?_; first | (refine xA hcc (k1) rfl ?_; skip) | (refine xA hcc (k2) rfl ?_; skip) | (refine xA hcc (hrow) rfl ?_; skip) | (refine xA hcc (hsg (by assumption) (by assumption)) rfl ?_; skip) | (refine xA hcc (h1) rfl ?_; skip) | (refine xA hcc (h3) rfl ?_; skip) | (refine xA hcc (hcl) rfl ?_; skip) | (refine xA hcc (hsr) rfl ?_; skip))
    | (with_reducible refine Asm.mk2 ?_ ?_)
    | ((fail_if_success (with_reducible first | refine hQ _ ?_ | refine Side.mk ?_ | refine isCP hcp ?_ | refine isCC hcc ?_ | refine isLP hlp ?_ | refine Ix.mk ?_ | refine SIx.mk ?_ | refine SEx.mk ?_ | refine EIx.mk ?_ | refine RIx.mk ?_ | show False | refine hR ?_ _ ?_ ?_ ?_ ?_ ?_ | refine hR2 ?_ _ ?_ ?_ ?_ ?_ ?_)); cbv))
  all_goals first
    | exact hQ _ rfl
    | (exfalso; clear hQ hcp hcc hlp h1 h3 k1 k2 hrow hcl hsr hsg; simp_all; done)
theorem i64ok_of {n : Int} (h : (Lit.int .i64 n).wf = true) : i64ok n := by
  simp only [Lit.wf, Bool.and_eq_true, decide_eq_true_eq] at h
  exact h
theorem cellKeys_law {n0 n1 : Nat} {x0 x1 : PV} (f0 : FitsA Tryd.prog n0 22 x0) (f1 : FitsA Tryd.prog n1 22 x1) (b0 : bk x0 ≤ 1048577) (b1 : bk x1 ≤ 1048577) : PCall Tryd.prog 4 [x0, x1] fun r => r = [.bool true] := by
  obtain ⟨l0, rfl, h0, o0⟩ := fits29 f0
  obtain ⟨l1, rfl, h1, o1⟩ := fits29 f1
  have key : ∀ l : List Val, bk (.sl (l.map Val.cells)) ≤ 1048577 → (∀ v, v ∈ l → v.ok) → l.length ≤ 1048577 ∧ (∀ v, v ∈ l → v.s.size ≤ 1048577) ∧ (keyL l).length ≤ 4000000 ∧ ∀ v, v ∈ l → i64ok v.n := by
    intro l hb ho
    have c0 : bkLL (l.map Val.cells) + 1 ≤ 1048577 := hb
    have hk := keyL_len l
    have hl := bkLL_len (l.map Val.cells) (fun e he => by obtain ⟨v, _, rfl⟩ := List.mem_map.1 he; simp [Val.cells])
    rw [List.length_map] at hl
    refine ⟨by omega, fun v hv => ?_, by omega, fun v hv => i64ok_of (ho v hv).2.1⟩
    have h3 : bkL v.cells ≤ bkLL (l.map Val.cells) := bkLL_mem (List.mem_map.2 ⟨v, hv, rfl⟩)
    have h4 : bkL v.cells = v.s.size + 3 := by simp only [Val.cells, bkL, bk]; omega
    omega
  obtain ⟨a1, a2, a3, a4⟩ := key l0 b0 o0
  obtain ⟨c1, c2, c3, c4⟩ := key l1 b1 o1
  exact cellKeys_c l0 l1 _ _ rfl rfl a1 c1 a2 c2 a3 c3 a4 c4
end Go.Proofs.YtnhmnfokbinplaaDoor
