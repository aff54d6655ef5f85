/- Expressions: their size, the walk. Own work; no condition. -/
import Derived.Test.YtnhmnfokbinplaaEx1
namespace Go.Proofs.Ytnhmnfokbinplaa
open Go Go.RowKit
set_option maxRecDepth 100000
set_option linter.unusedSimpArgs false
set_option linter.unusedVariables false

set_option maxHeartbeats 4000000 in
theorem walk_c (op m : Int) (v : Val) (ar : List Ex) (es : List (List PV)) (hes : ar.map Ex.cells = es) (IH : ∀ x, x ∈ ar → WalkC x) (d n h : Int) (hd0 : 0 ≤ d) (hd1 : d ≤ 41) (hn0 : 0 ≤ n) (hn1 : n ≤ 400) :
    ACall Try.prog 131 [.p (.ip [.int .i64 op, .int .i64 m, .int .i64 v.k, .int .i64 v.n, .str v.s, .sl es]), .p (.int .i64 d), .ref 0 0, .ref 1 0, .ref 2 0] (wH n h) fun r H' => r = .p (.bool (walkE (.mk op m v ar) d n h).1) ∧ takeX H' 3 = wH (walkE (.mk op m v ar) d n h).2.1 (walkE (.mk op m v ar) d n h).2.2 := by
  have hel : es.length = ar.length := by rw [← hes]; simp
  obtain ⟨q, hq⟩ : ∃ q, walkE (.mk op m v ar) d n h = q := ⟨_, rfl⟩
  rw [hq]
  rw [walkE] at hq
  obtain ⟨vk, vn, vs⟩ := v
  have hw1 : IntKind.i64.wrap (n + 1) = n + 1 := wrap_in (by omega)
  have hsz : ((⟨vk, vn, vs⟩ : Val).s.size : Int) = vs.size := rfl
  have hfail : ∀ (zn zh : Int), IntKind.i64.wrap (n + 1) = zn → (if h < d then d else h) = zh →
      (decide (400 < zn) = true ∨ decide (40 < d) = true ∨ (∃ za zl, (!decide (za = zl)) = true ∧ arityE op = za ∧ (es.length : Int) = zl) ∨ (decide (op = 1) = true ∧ decide (m < 0) = true) ∨ (decide (op = 2) = true ∧ decide (vk = 2) = true ∧ ∃ zs, decide ((1000 : Int) < zs) = true ∧ (vs.size : Int) = zs)) → q = (false, zn, zh) := by
    intro zn zh h1 h2 h3
    rw [hw1] at h1
    subst h1 h2
    rw [← hq, if_pos]
    · rfl
    · simp only [badE, Bool.or_eq_true, Bool.and_eq_true, decide_eq_true_eq, Bool.not_eq_true', decide_eq_false_iff_not] at h3 ⊢
      rcases h3 with h3 | h3 | ⟨za, zl, h3, h4, h5⟩ | ⟨h3, h4⟩ | ⟨h3, h4, zs, h5, h6⟩
      · exact .inl (.inl h3)
      · exact .inl (.inr h3)
      · right; left; left; rw [h4, ← hel, h5]; exact h3
      · right; left; right; exact ⟨h3, h4⟩
      · right; right; exact ⟨⟨h3, h4⟩, by rw [hsz, h6]; exact h5⟩
  have hgo : ∀ (zn zh za zl : Int), IntKind.i64.wrap (n + 1) = zn → (if h < d then d else h) = zh → decide (400 < zn) = false → decide (40 < d) = false → (!decide (za = zl)) = false → arityE op = za → (es.length : Int) = zl →
      (decide (op = 1) = false ∨ decide (m < 0) = false) → (decide (op = 2) = false ∨ decide (vk = 2) = false ∨ ∃ zs, decide ((1000 : Int) < zs) = false ∧ (vs.size : Int) = zs) → walkL ar (d + 1) zn zh = q ∧ 0 ≤ zn ∧ zn ≤ 400 ∧ d ≤ 40 ∧ (es.length : Int) ≤ 3 := by
    intro zn zh za zl h1 h2 h3 h4 h5 h6 h7 h8 h9
    rw [hw1] at h1
    subst h1 h2
    simp only [decide_eq_false_iff_not, Bool.not_eq_false', decide_eq_true_eq] at h3 h4 h5
    have ha3 : arityE op ≤ 3 := by unfold arityE; (repeat' split) <;> omega
    refine ⟨?_, by omega, by omega, by omega, by omega⟩
    show walkL ar (d + 1) (n + 1) (mx h d) = q
    rw [← hq, if_neg]
    · simp only [badE, Bool.or_eq_true, Bool.and_eq_true, decide_eq_true_eq, Bool.not_eq_true', decide_eq_false_iff_not, not_or, not_and, Decidable.not_not]
      simp only [decide_eq_false_iff_not] at h8 h9
      refine ⟨⟨h3, h4⟩, ⟨by rw [h6, ← hel, h7]; exact h5, fun a b => ?_⟩, fun a b => ?_⟩
      · rcases h8 with g | g
        · exact g a
        · exact g b
      · rcases h9 with g | g | ⟨zs, g, k⟩
        · exact absurd a.1 g
        · exact absurd a.2 g
        · rw [hsz, k] at b; exact g b
  clear hq
  refine ACall.x (nt := 91) (res := [.tmp 7]) mixed tt_ok [] Try.func131 rfl rfl rfl c131 (Nat.le_of_ble_eq_true rfl) ?_
  intro cp cc lp Q' hcp hcc hlp hQ
  repeat' (first
    | (with_reducible refine Nm.mk ?_; intro z hz)
    | (with_reducible refine IfB.mk ?_ ?_ <;> (intro h; cases h))
    | (with_reducible refine Asm.mk ?_ ?_; focus (first | kernel_rfl | decide))
    | (with_reducible refine isCP hcp ?_; first | (refine iP hcp (arity_c op) ?_; intro z hz))
    | (with_reducible refine isCC hcc ?_; first | (refine iA hcc (arity_c op) rfl ?_; intro z hz))
    | (with_reducible refine Asm.mk2 ?_ ?_)
    | ((fail_if_success (with_reducible refine hQ _ _ ?_)); (fail_if_success (with_reducible refine Side.mk ?_)); (fail_if_success (with_reducible refine isCP hcp ?_)); (fail_if_success (with_reducible refine isCC hcc ?_)); (fail_if_success (with_reducible refine isLP hlp ?_)); (fail_if_success (with_reducible refine Ix.mk ?_)); (fail_if_success (with_reducible refine SIx.mk ?_)); (fail_if_success (with_reducible refine SEx.mk ?_)); (fail_if_success (with_reducible refine EIx.mk ?_)); (fail_if_success (with_reducible show False)); (fail_if_success (with_reducible refine hR ?_ _ ?_ ?_ ?_ ?_ ?_)); (fail_if_success (with_reducible refine hR2 ?_ _ ?_ ?_ ?_ ?_ ?_)); cbv))
  all_goals first
    | (have e : q = _ := hfail _ _ (by assumption) (by assumption) (by first | exact .inl (by assumption) | exact .inr (.inl (by assumption)) | exact .inr (.inr (.inl ⟨_, _, by assumption, by assumption, by assumption⟩)) | exact .inr (.inr (.inr (.inl ⟨by assumption, by assumption⟩))) | exact .inr (.inr (.inr (.inr ⟨by assumption, by assumption, _, by assumption, by assumption⟩))))
       refine hQ _ _ ⟨?_, ?_⟩
       · rw [e]; rfl
       · rw [e]; rfl)
    | (obtain ⟨e, hzn0, hzn1, hd40, hl3⟩ := hgo _ _ _ _ (by assumption) (by assumption) (by assumption) (by assumption) (by assumption) (by assumption) (by assumption) (by first | exact .inl (by assumption) | exact .inr (by assumption)) (by first | exact .inl (by assumption) | exact .inr (.inl (by assumption)) | exact .inr (.inr ⟨_, by assumption, by assumption⟩))
       have hwd : IntKind.i64.wrap (d + 1) = d + 1 := wrap_in (by omega)
       simp only [nc] at hz
       simp only [nc'] at hz
       have hzl := hz
       clear hz
       rename Int => zl
       refine loopX (ι := Int × Int × Int) mixed tt_ok hcp hcc hlp [0, 1, 2, 3, 4, 75] (fun p => [(76, .p (.int .i64 p.1))]) (fun p => wH p.2.1 p.2.2)
         (fun p => 0 ≤ p.1 ∧ p.1 ≤ zl ∧ 0 ≤ p.2.1 ∧ p.2.1 ≤ 400 ∧ walkL (ar.drop p.1.toNat) (d + 1) p.2.1 p.2.2 = q) (fun p => (zl - p.1).toNat) (0, _, _)
         ⟨by show (0 : Int) ≤ 0; omega, by show (0 : Int) ≤ zl; omega, hzn0, hzn1, e⟩ ⟨rfl, trivial⟩ rfl ?_
       rintro R ⟨i, n1, h1⟩ ⟨hi0, hi1, hb0, hb1, hw⟩ hR
       have hi0 : 0 ≤ i := hi0
       have hi1 : i ≤ zl := hi1
       have hb0 : 0 ≤ n1 := hb0
       have hb1 : n1 ≤ 400 := hb1
       have hw : walkL (ar.drop i.toNat) (d + 1) n1 h1 = q := hw
       have hk : decide (i < zl) = true → i < ar.length := by simp only [decide_eq_true_eq]; omega
       have hdr : ∀ x, ar[i.toNat]? = some x → ar.drop i.toNat = x :: ar.drop (i + 1).toNat := by
         intro x hx
         have hlt := (List.getElem?_eq_some_iff.1 hx).1
         rw [List.drop_eq_getElem_cons hlt, show (i + 1).toNat = i.toNat + 1 by omega]
         congr 1
         exact (List.getElem?_eq_some_iff.1 hx).2
       have hend : decide (i < zl) = false → q = (true, n1, h1) := by
         intro hf
         simp only [decide_eq_false_iff_not] at hf
         rw [← hw, List.drop_eq_nil_of_le (by omega)]; rfl
       have hstep : ∀ x b n2 h2, ar[i.toNat]? = some x → walkE x (d + 1) n1 h1 = (b, n2, h2) → (b = false → q = (false, n2, h2)) ∧ (b = true → walkL (ar.drop (i + 1).toNat) (d + 1) n2 h2 = q ∧ 0 ≤ n2 ∧ n2 ≤ 400) := by
         intro x b n2 h2 hx he
         have hn := walkE_nodes _ _ _ _ _ _ _ hb0 hb1 he
         rw [hdr x hx, walkL, he] at hw
         constructor
         · intro hb; subst hb; exact hw.symm
         · intro hb; subst hb; exact ⟨hw, hn.1, (hn.2.2 rfl).2⟩
       have hcallr : ∀ (op' m' vk' vn' : Int) (vs' : ByteArray) (ar' : List Ex) (es' : List (List PV)) (z' : Int), ar[i.toNat]? = some (.mk op' m' ⟨vk', vn', vs'⟩ ar') → ar'.map Ex.cells = es' → IntKind.i64.wrap (d + 1) = z' → ∃ b n2 h2, (walkE (.mk op' m' ⟨vk', vn', vs'⟩ ar') (d + 1) n1 h1 = (b, n2, h2) ∧ z' = d + 1) ∧
           ACall Try.prog 131 [.p (.ip [.int .i64 op', .int .i64 m', .int .i64 vk', .int .i64 vn', .str vs', .sl es']), .p (.int .i64 z'), .ref 0 0, .ref 1 0, .ref 2 0] (wH n1 h1) fun r H' => r = .p (.bool b) ∧ takeX H' 3 = wH n2 h2 := by
         intro op' m' vk' vn' vs' ar' es' z' hx he hz'
         rw [hwd] at hz'
         subst hz'
         obtain ⟨b, n2, h2, k1, k2⟩ := IH _ (List.mem_of_getElem? hx) _ (d + 1) n1 h1 (by rw [cells_mk, he]) (by omega) (by omega) hb0 hb1
         exact ⟨b, n2, h2, ⟨k1, rfl⟩, k2⟩
       repeat' (first
         | (with_reducible refine Nm.mk ?_; intro z hz)
         | (with_reducible refine IfB.mk ?_ ?_ <;> (intro h; cases h))
         | (with_reducible refine Asm.mk ?_ ?_; focus kernel_rfl)
         | (with_reducible refine Ix.ex hes hi0 (hk (by assumption)) ?_; intro op' m' vk' vn' vs' ar' es' hx hes')
         | (with_reducible refine isCC hcc ?_; obtain ⟨b', n2, h2, ⟨hwe, hz'⟩, hcall⟩ := hcallr _ _ _ _ _ _ _ _ hx hes' (by assumption); refine frameA (H1 := wH n2 h2) hcc [0, 1, 2] hcall rfl rfl rfl rfl rfl ?_)
         | (with_reducible refine Asm.mk2 ?_ ?_)
         | ((fail_if_success (with_reducible refine hQ _ _ ?_)); (fail_if_success (with_reducible refine Side.mk ?_)); (fail_if_success (with_reducible refine isCP hcp ?_)); (fail_if_success (with_reducible refine isCC hcc ?_)); (fail_if_success (with_reducible refine isLP hlp ?_)); (fail_if_success (with_reducible refine Ix.mk ?_)); (fail_if_success (with_reducible refine SIx.mk ?_)); (fail_if_success (with_reducible refine SEx.mk ?_)); (fail_if_success (with_reducible refine EIx.mk ?_)); (fail_if_success (with_reducible show False)); (fail_if_success (with_reducible refine hR ?_ _ ?_ ?_ ?_ ?_ ?_)); (fail_if_success (with_reducible refine hR2 ?_ _ ?_ ?_ ?_ ?_ ?_)); cbv))
       all_goals first
         | (have hb' : (!b') = true := by assumption
            have e : q = (false, n2, h2) := (hstep _ _ _ _ hx hwe).1 (by simpa using hb')
            refine hQ _ _ ⟨?_, ?_⟩
            · rw [e]; rfl
            · rw [e]; rfl)
         | (have hb' : (!b') = false := by assumption
            obtain ⟨g1, g2, g3⟩ := (hstep _ _ _ _ hx hwe).2 (by simpa using hb')
            have hlt := hk (by assumption)
            have e1 : IntKind.i64.wrap (i + 1) = i + 1 := wrap_in (by omega)
            rw [e1] at hz
            refine hR (i + 1, n2, h2) _ ⟨by show 0 ≤ i + 1; omega, by show i + 1 ≤ _; clear hR hQ; simp only [decide_eq_true_eq] at *; omega, g2, g3, g1⟩ (by show Int.toNat _ < Int.toNat _; clear hR hQ; simp only [decide_eq_true_eq] at *; omega) ⟨hz ▸ rfl, trivial⟩ ⟨rfl, rfl, rfl, rfl, rfl, rfl, trivial⟩ rfl)
         | (have e : q = (true, n1, h1) := hend (by assumption)
            refine hQ _ _ ⟨?_, ?_⟩
            · rw [e]; rfl
            · rw [e]; rfl))
end Go.Proofs.Ytnhmnfokbinplaa
