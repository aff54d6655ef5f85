/- Expressions: Parts; the law ExprParts. Own work; no condition. -/
import Derived.Test.YtnhmnfokbinplaaEx5
namespace Go.Proofs.Ytnhmnfokbinplaa
open Go Go.RowKit
set_option maxRecDepth 100000
set_option linter.unusedSimpArgs false
set_option linter.unusedVariables false

mutual
theorem wide_copy : ∀ e : Ex, e.wide → (mapE id e).wide
  | .mk op n v ar, h => by
    rw [mapE]
    show wideN (mapL id ar).length ∧ wideL (mapL id ar)
    exact ⟨by rw [mapL_eq, List.length_map]; exact h.1, wide_copyL ar h.2⟩
theorem wide_copyL : ∀ l : List Ex, wideL l → wideL (mapL id l)
  | [], _ => trivial
  | e :: r, h => ⟨wide_copy e h.1, wide_copyL r h.2⟩
end
theorem okV_nV {op : Int} {v : Val} (h : okV v) : okV (nV op v) := by
  unfold nV
  split
  · exact okV_zero
  · split
    · exact okV_clean h
    · exact okV_zero
mutual
theorem okc_copy : ∀ e : Ex, e.okc → (mapE id e).okc
  | .mk op n v ar, h => by
    rw [mapE_mk, ← mapL_eq]
    exact ⟨okV_nV h.1, okc_copyL ar h.2⟩
theorem okc_copyL : ∀ l : List Ex, okcL l → okcL (mapL id l)
  | [], _ => trivial
  | e :: r, h => ⟨okc_copy e h.1, okc_copyL r h.2⟩
end
mutual
theorem parts_ok : ∀ e : Ex, e.wide → e.okc → ∀ p, p ∈ partsM e → p.wide ∧ p.okc
  | .mk op n v ar, hw, ho, p, hp => by
    rw [partsM] at hp
    split at hp
    · exact parts_okL ar hw.2 ho.2 p hp
    · simp only [List.mem_singleton] at hp
      subst hp
      exact ⟨wide_copy _ hw, okc_copy _ ho⟩
theorem parts_okL : ∀ l : List Ex, wideL l → okcL l → ∀ p, p ∈ partsL l → p.wide ∧ p.okc
  | [], _, _, p, hp => by simp [partsL] at hp
  | e :: r, hw, ho, p, hp => by
    rw [partsL, List.mem_append] at hp
    rcases hp with hp | hp
    · exact parts_ok e hw.1 ho.1 p hp
    · exact parts_okL r hw.2 ho.2 p hp
end
theorem built_two {n : Int} {v : Val} {ar : List Ex} (hb : builtM (.mk 19 n v ar) = true) : ∃ a b, ar = [a, b] ∧ builtM a = true ∧ builtM b = true := by
  obtain ⟨hbad, hbs⟩ := built_mk hb
  have ha := badE_arity hbad
  have hl : ar.length = 2 := by simp [arityE] at ha; omega
  match ar, hl, hbs with
  | [a, b], _, hbs => exact ⟨a, b, rfl, hbs a (by simp), hbs b (by simp)⟩
theorem parts_pos : ∀ (m : Nat) (e : Ex), e.sz ≤ m → 0 < (partsM e).length
  | 0, .mk op n v ar, h => by simp [Ex.sz] at h
  | m + 1, .mk op n v ar, h => by
    rw [partsM]
    split
    · rename_i hc
      obtain ⟨hb, rfl⟩ := hc
      obtain ⟨a, b, rfl, _, _⟩ := built_two hb
      simp only [partsL, List.length_append]
      have := parts_pos m a (by simp only [Ex.sz, szL] at h; omega)
      omega
    · simp

theorem parts_c (op n vk vn : Int) (vs : ByteArray) (ar : List Ex) (es : List (List PV)) (hes : ar.map Ex.cells = es) (hw : (Ex.mk op n ⟨vk, vn, vs⟩ ar).wide)
    (IH : ∀ x, x ∈ ar → TCall Try.prog 63 [.agg x.cells] (fun l => l = (partsM x).map Ex.cells) 6) :
    TCall Try.prog 63 [.agg [.int .i64 op, .int .i64 n, .int .i64 vk, .int .i64 vn, .str vs, .sl es]] (fun l => l = (partsM (.mk op n ⟨vk, vn, vs⟩ ar)).map Ex.cells) 6 := by
  have hbt := ebuilt_c op n vk vn vs ar es hes
  have hcp' := copy_c op n vk vn vs ar es hes hw
  obtain ⟨q, hq⟩ : ∃ q, (partsM (.mk op n ⟨vk, vn, vs⟩ ar)).map Ex.cells = q := ⟨_, rfl⟩
  rw [hq]
  rw [partsM] at hq
  have h2 : ∀ z, builtM (.mk op n ⟨vk, vn, vs⟩ ar) = z → (!z) = false → (!decide (op = 19)) = false → ∃ a b, es = [a.cells, b.cells] ∧ (partsM a).map Ex.cells ++ (partsM b).map Ex.cells = q ∧ (partsM a).length + (partsM b).length ≤ 400 ∧
      (TCall Try.prog 63 [.agg a.cells] (fun l => l = (partsM a).map Ex.cells) 6) ∧ TCall Try.prog 63 [.agg b.cells] (fun l => l = (partsM b).map Ex.cells) 6 := by
    intro z h1 h2 h3
    have hb : builtM (.mk op n ⟨vk, vn, vs⟩ ar) = true := by rw [h1]; simpa using h2
    have h19 : op = 19 := by simpa using h3
    subst h19
    have hs := built_sz hb
    obtain ⟨a, b, rfl, _, _⟩ := built_two hb
    refine ⟨a, b, hes.symm, ?_, ?_, IH a (by simp), IH b (by simp)⟩
    · rw [← hq, if_pos ⟨hb, rfl⟩]; simp [partsL]
    · have h1 := partsL_len [a, b]
      simp only [partsL, List.length_append, List.append_nil, List.length_nil, szL, Ex.sz] at h1 hs
      omega
  have h1 : ∀ z, builtM (.mk op n ⟨vk, vn, vs⟩ ar) = z → (!z) = true ∨ (!decide (op = 19)) = true → [(mapE id (.mk op n ⟨vk, vn, vs⟩ ar)).cells] = q := by
    intro z hz h
    rw [← hq, if_neg]
    · rfl
    · rintro ⟨x, y⟩
      rw [← hz, x] at h
      simp [y] at h
  clear hq
  refine TCall.x (nt := 25) (res := [.tmp 2]) mixed tt_ok [] Try.func63 rfl rfl rfl c63 (Nat.le_of_ble_eq_true rfl) ?_
  intro cp cc lp Q' hcp hcc hlp hQ
  repeat' (first
    | (with_reducible refine Nm.mk ?_; intro z hz)
    | (with_reducible refine IfB.mk ?_ ?_ <;> (intro h; cases h))
    | (with_reducible refine Asm.mk ?_ ?_; focus (first | kernel_rfl | decide))
    | (with_reducible refine isCP hcp ?_; first | (refine bP hcp (hbt) ?_; intro z hz) | (refine exP hcp (hcp') ?_; intro op2 n2 vk2 vn2 vs2 ar2 es2 hX hes2))
    | (with_reducible refine isCC hcc ?_; first | (refine bA hcc (hbt) rfl ?_; intro z hz) | (refine exA hcc (hcp') rfl ?_; intro op2 n2 vk2 vn2 vs2 ar2 es2 hX hes2))
    | (with_reducible refine Asm.mk2 ?_ ?_)
    | ((fail_if_success (with_reducible refine hQ _ ?_)); (fail_if_success (with_reducible refine Side.mk ?_)); (fail_if_success (with_reducible refine isCP hcp ?_)); (fail_if_success (with_reducible refine isCC hcc ?_)); (fail_if_success (with_reducible refine isLP hlp ?_)); (fail_if_success (with_reducible refine Ix.mk ?_)); (fail_if_success (with_reducible refine SIx.mk ?_)); (fail_if_success (with_reducible refine SEx.mk ?_)); (fail_if_success (with_reducible refine EIx.mk ?_)); (fail_if_success (with_reducible show False)); (fail_if_success (with_reducible refine hR ?_ _ ?_ ?_ ?_ ?_ ?_)); (fail_if_success (with_reducible refine hR2 ?_ _ ?_ ?_ ?_ ?_ ?_)); cbv))
  · refine hQ _ ?_
    rw [← h1 _ (by assumption) (.inl (by assumption)), hX, cells_mk, hes2]
  · refine hQ _ ?_
    rw [← h1 _ (by assumption) (.inr (by assumption)), hX, cells_mk, hes2]
  · obtain ⟨a, b, he, hab, hlen, ta, tb⟩ := h2 _ (by assumption) (by assumption) (by assumption)
    obtain ⟨oa, na, ⟨ka, ma, sa⟩, ra⟩ := a
    obtain ⟨ob, nb, ⟨kb, mb, sb⟩, rb⟩ := b
    have hA0 : es[0]? = some (Ex.mk oa na ⟨ka, ma, sa⟩ ra).cells := by rw [he]; rfl
    have hA1 : es[1]? = some (Ex.mk ob nb ⟨kb, mb, sb⟩ rb).cells := by rw [he]; rfl
    clear h1 h2
    have oka := okEs_cells (partsM (Ex.mk oa na ⟨ka, ma, sa⟩ ra))
    have okb := okEs_cells (partsM (Ex.mk ob nb ⟨kb, mb, sb⟩ rb))
    obtain ⟨PA, hPA⟩ : ∃ x, (partsM (Ex.mk oa na ⟨ka, ma, sa⟩ ra)).map Ex.cells = x := ⟨_, rfl⟩
    obtain ⟨PB, hPB⟩ : ∃ x, (partsM (Ex.mk ob nb ⟨kb, mb, sb⟩ rb)).map Ex.cells = x := ⟨_, rfl⟩
    have hl1 : PA.length + PB.length ≤ 400 := by rw [← hPA, ← hPB]; simpa using hlen
    rw [hPA] at ta oka hab
    rw [hPB] at tb okb hab
    rw [cells_mk] at ta tb hA0 hA1
    obtain ⟨ea, hea⟩ : ∃ x, ra.map Ex.cells = x := ⟨_, rfl⟩
    obtain ⟨eb, heb⟩ : ∃ x, rb.map Ex.cells = x := ⟨_, rfl⟩
    rw [hea] at ta hA0
    rw [heb] at tb hA1
    have hside : ∀ z1 z2 : List (List PV), PA = z1 → PB = z2 → z1.length = z1.length ∧ 6 = 6 ∧ okEs 6 z1 = true ∧ okEs 6 z2 = true ∧ z1.length + z2.length ≤ maxLen ∧ (z1.length + z2.length) * 72 ≤ 140737488355328 := by
      rintro z1 z2 rfl rfl
      refine ⟨rfl, rfl, oka, okb, ?_, ?_⟩
      · simp only [maxLen]; omega
      · omega
    repeat' (first
      | (with_reducible refine Nm.mk ?_; intro z hz)
      | (with_reducible refine IfB.mk ?_ ?_ <;> (intro h; cases h))
      | (with_reducible refine Asm.mk ?_ ?_; focus kernel_rfl)
      | (with_reducible refine isCP hcp ?_; first | (refine tP hcp (ta) ?_; intro z hz) | (refine tP hcp (tb) ?_; intro z hz))
      | (with_reducible refine isCC hcc ?_; first | (refine tA hcc (ta) rfl ?_; intro z mz hz hmz) | (refine tA hcc (tb) rfl ?_; intro z mz hz hmz))
      | (with_reducible refine Ix.el 0 (by decide) rfl hA0 rfl (by decide) ?_)
      | (with_reducible refine Ix.el 1 (by decide) rfl hA1 rfl (by decide) ?_)
      | (with_reducible refine Asm.mk2 ?_ ?_)
      | ((fail_if_success (with_reducible refine hQ _ ?_)); (fail_if_success (with_reducible refine Side.mk ?_)); (fail_if_success (with_reducible refine isCP hcp ?_)); (fail_if_success (with_reducible refine isCC hcc ?_)); (fail_if_success (with_reducible refine isLP hlp ?_)); (fail_if_success (with_reducible refine Ix.mk ?_)); (fail_if_success (with_reducible refine SIx.mk ?_)); (fail_if_success (with_reducible refine SEx.mk ?_)); (fail_if_success (with_reducible refine EIx.mk ?_)); (fail_if_success (with_reducible show False)); (fail_if_success (with_reducible refine hR ?_ _ ?_ ?_ ?_ ?_ ?_)); (fail_if_success (with_reducible refine hR2 ?_ _ ?_ ?_ ?_ ?_ ?_)); cbv))
    · refine Side.mk ?_
      obtain ⟨u1, u2, u3⟩ := hside _ _ (by assumption) (by assumption)
      exact ⟨Eq.symm (by assumption), u2, u3⟩
    · refine Side.mk ?_
      clear hQ
      subst_vars
      exact ⟨by simp, rfl⟩
    · refine hQ _ ?_
      clear hQ
      subst_vars
      rfl
theorem parts_all : ∀ (m : Nat) (e : Ex), e.sz ≤ m → e.wide → TCall Try.prog 63 [.agg e.cells] (fun l => l = (partsM e).map Ex.cells) 6
  | 0, .mk op n v ar, h, _ => by simp [Ex.sz] at h
  | m + 1, .mk op n ⟨vk, vn, vs⟩ ar, h, hw => by
    rw [cells_mk]
    refine parts_c op n vk vn vs ar _ rfl hw fun x hx => parts_all m x ?_ (wide_mem hw.2 hx)
    have := sz_mem hx
    simp only [Ex.sz] at h; omega
theorem partsP_c (op n vk vn : Int) (vs : ByteArray) (ar : List Ex) (es : List (List PV)) (hes : ar.map Ex.cells = es) (hw : (Ex.mk op n ⟨vk, vn, vs⟩ ar).wide) :
    PCall Try.prog 63 [.agg [.int .i64 op, .int .i64 n, .int .i64 vk, .int .i64 vn, .str vs, .sl es]] fun r => r = [.sl ((partsM (.mk op n ⟨vk, vn, vs⟩ ar)).map Ex.cells)] := by
  have h := (parts_all _ _ (Nat.le_refl _) hw).pure
  rw [cells_mk, hes] at h
  exact h.mono fun r hr => by obtain ⟨L, rfl, rfl⟩ := hr; rfl

theorem parts_400 (e : Ex) : (partsM e).length ≤ 400 := by
  obtain ⟨op, n, v, ar⟩ := e
  rw [partsM]
  split
  · rename_i h
    have h1 := built_sz h.1
    have h2 := partsL_len ar
    simp only [Ex.sz] at h1; omega
  · simp

set_option maxHeartbeats 4000000 in
theorem exprParts_c (op n vk vn : Int) (vs : ByteArray) (ar : List Ex) (es : List (List PV)) (hes : ar.map Ex.cells = es) (hw : (Ex.mk op n ⟨vk, vn, vs⟩ ar).wide) (ho : (Ex.mk op n ⟨vk, vn, vs⟩ ar).okc) (row : List Val) (R : List (List PV)) (hrw : row.map Val.cells = R) (hr : rowOk row) :
    PCall Try.prog 12 [.agg [.int .i64 op, .int .i64 n, .int .i64 vk, .int .i64 vn, .str vs, .sl es], .sl R] fun r => r = [.bool true] := by
  have hp := partsP_c op n vk vn vs ar es hes hw
  have he := eval_c op n vk vn vs ar es hes hw ho row R hrw hr
  have hlaw := parts_true (colOf row) (.mk op n ⟨vk, vn, vs⟩ ar)
  have hpos := parts_pos _ (.mk op n ⟨vk, vn, vs⟩ ar) (Nat.le_refl _)
  have hpo := parts_ok (.mk op n ⟨vk, vn, vs⟩ ar) hw ho
  have h400 := parts_400 (.mk op n ⟨vk, vn, vs⟩ ar)
  obtain ⟨E, hE⟩ : ∃ E, evalM (colOf row) (.mk op n ⟨vk, vn, vs⟩ ar) = E := ⟨_, rfl⟩
  obtain ⟨PL, hPL⟩ : ∃ x, partsM (.mk op n ⟨vk, vn, vs⟩ ar) = x := ⟨_, rfl⟩
  rw [hPL] at hp hlaw hpos hpo h400
  rw [hE] at he hlaw
  obtain ⟨L, hL⟩ : ∃ x, PL.map Ex.cells = x := ⟨_, rfl⟩
  rw [hL] at hp
  have hLl : L.length = PL.length := by rw [← hL]; simp
  have hev : ∀ (op' m' vk' vn' : Int) (vs' : ByteArray) (ar' : List Ex) (es' : List (List PV)) (i : Nat), PL[i]? = some (.mk op' m' ⟨vk', vn', vs'⟩ ar') → ar'.map Ex.cells = es' →
      PCall Try.prog 64 [.agg [.int .i64 op', .int .i64 m', .int .i64 vk', .int .i64 vn', .str vs', .sl es'], .sl R] fun r => r = [(evalM (colOf row) (.mk op' m' ⟨vk', vn', vs'⟩ ar')).enc] := by
    intro op' m' vk' vn' vs' ar' es' i hx he
    obtain ⟨w1, w2⟩ := hpo _ (List.mem_of_getElem? hx)
    exact eval_c op' m' vk' vn' vs' ar' es' he w1 w2 row R hrw hr
  have ht : ∀ (x v : Val), x = v → PCall Try.prog 57 [.agg [.int .i64 v.k, .int .i64 v.n, .str v.s]] fun r => r = [.bool (trueV x)] := by rintro x v rfl; exact true_c _ _ _
  have hw3 : ar.length ≤ 140737488355328 := by have := hw.1; unfold wideN at this; omega
  refine PCall.x (nt := 54) (res := [.tmp 4]) mixed tt_ok [] Try.func12 rfl rfl rfl c12 (Nat.le_of_ble_eq_true rfl) ?_
  intro cp cc lp Q' hcp hcc hlp hQ
  repeat' (first
    | (with_reducible refine Nm.mk ?_; intro z hz)
    | (with_reducible refine IfB.mk ?_ ?_ <;> (intro h; cases h))
    | (with_reducible refine Asm.mk ?_ ?_; focus (first | kernel_rfl | decide))
    | (with_reducible refine isCP hcp ?_; first | (refine xP hcp (hp) ?_; skip))
    | (with_reducible refine isCC hcc ?_; first | (refine xA hcc (hp) rfl ?_; skip))
    | (with_reducible refine Asm.mk2 ?_ ?_)
    | ((fail_if_success (with_reducible refine hQ _ ?_)); (fail_if_success (with_reducible refine Side.mk ?_)); (fail_if_success (with_reducible refine isCP hcp ?_)); (fail_if_success (with_reducible refine isCC hcc ?_)); (fail_if_success (with_reducible refine isLP hlp ?_)); (fail_if_success (with_reducible refine Ix.mk ?_)); (fail_if_success (with_reducible refine SIx.mk ?_)); (fail_if_success (with_reducible refine SEx.mk ?_)); (fail_if_success (with_reducible refine EIx.mk ?_)); (fail_if_success (with_reducible show False)); (fail_if_success (with_reducible refine hR ?_ _ ?_ ?_ ?_ ?_ ?_)); (fail_if_success (with_reducible refine hR2 ?_ _ ?_ ?_ ?_ ?_ ?_)); cbv))
  simp only [nc] at hz
  simp only [nc'] at hz
  have hzl := hz
  clear hz
  rename Int => zl
  refine loopK (ι := Int × Bool) mixed tt_ok hcp hcc hlp [1, 2, 6, 11, 12] (fun p => [(13, .p (.int .i64 p.1)), (5, .p (.bool p.2))]) (fun p => 0 ≤ p.1 ∧ p.1 ≤ zl ∧ (PL.take p.1.toNat).all (fun q => trueV (evalM (colOf row) q)) = p.2) (fun p => (zl - p.1).toNat) (0, true) (fun _ => rfl)
    ⟨by show (0 : Int) ≤ 0; omega, by show (0 : Int) ≤ zl; omega, rfl⟩ ⟨rfl, rfl, trivial⟩ ?_
  rintro R2 ⟨i, b⟩ ⟨hi0, hi1, hb⟩ hR
  have hi0 : 0 ≤ i := hi0
  have hi1 : i ≤ zl := hi1
  have hb : (PL.take i.toNat).all (fun q => trueV (evalM (colOf row) q)) = b := hb
  have hk : decide (i < zl) = true → i < PL.length := by simp only [decide_eq_true_eq]; omega
  have hst : decide (i < zl) = true → IntKind.i64.wrap (i + 1) = i + 1 ∧ (0 ≤ i + 1 ∧ i + 1 ≤ zl) ∧ (zl - (i + 1)).toNat < (zl - i).toNat := by
    intro h
    have hlt := hk h
    simp only [decide_eq_true_eq] at h
    exact ⟨wrap_in (by omega), by omega, by omega⟩
  have hfin : decide (i < zl) = false → b = trueV E := by
    simp only [decide_eq_false_iff_not]; intro h
    rw [List.take_of_length_le (by omega)] at hb
    rw [← hb, hlaw]
  have hz0 : ∀ z : Int, (L.length : Int) = z → decide (0 < z) = false → False := by intro z h g; simp only [decide_eq_false_iff_not] at g; omega
  have hstep : ∀ x, PL[i.toNat]? = some x → (PL.take (i + 1).toNat).all (fun q => trueV (evalM (colOf row) q)) = (b && trueV (evalM (colOf row) x)) := by
    intro x hx
    rw [show (i + 1).toNat = i.toNat + 1 by omega, takeS hx, List.all_append, hb]; simp
  repeat' (first
    | (with_reducible refine Nm.mk ?_; intro z hz)
    | (with_reducible refine IfB.mk ?_ ?_ <;> (intro h; cases h))
    | (with_reducible refine Asm.mk ?_ ?_; focus kernel_rfl)
    | (with_reducible refine isCP hcp ?_; first | (refine vP hcp (hev _ _ _ _ _ _ _ i.toNat (by assumption) (by assumption)) ?_; intro v hv) | (refine vP hcp (he) ?_; intro v hv) | (refine bP hcp (ht _ _ (by assumption)) ?_; intro z hz))
    | (with_reducible refine isCC hcc ?_; first | (refine vA hcc (hev _ _ _ _ _ _ _ i.toNat (by assumption) (by assumption)) rfl ?_; intro v hv) | (refine vA hcc (he) rfl ?_; intro v hv) | (refine bA hcc (ht _ _ (by assumption)) rfl ?_; intro z hz))
    | (with_reducible refine Ix.ex hL hi0 (hk (by assumption)) ?_; intro op' m' vk' vn' vs' ar' es' hx hes')
    | (with_reducible refine Asm.mk2 ?_ ?_)
    | ((fail_if_success (with_reducible refine hQ _ ?_)); (fail_if_success (with_reducible refine Side.mk ?_)); (fail_if_success (with_reducible refine isCP hcp ?_)); (fail_if_success (with_reducible refine isCC hcc ?_)); (fail_if_success (with_reducible refine isLP hlp ?_)); (fail_if_success (with_reducible refine Ix.mk ?_)); (fail_if_success (with_reducible refine SIx.mk ?_)); (fail_if_success (with_reducible refine SEx.mk ?_)); (fail_if_success (with_reducible refine EIx.mk ?_)); (fail_if_success (with_reducible show False)); (fail_if_success (with_reducible refine hR ?_ _ ?_ ?_ ?_ ?_ ?_)); (fail_if_success (with_reducible refine hR2 ?_ _ ?_ ?_ ?_ ?_ ?_)); cbv))
  all_goals first
    | (obtain ⟨e1, u, mu⟩ := hst (by assumption)
       rw [e1] at hz
       refine hR (i + 1, _) _ ⟨u.1, u.2, ?_⟩ mu ⟨hz ▸ rfl, rfl, trivial⟩ ⟨rfl, rfl, rfl, rfl, rfl, trivial⟩ rfl
       show (PL.take (i + 1).toNat).all (fun q => trueV (evalM (colOf row) q)) = _
       rw [hstep _ hx]
       first | rfl | (show trueV _ = _; assumption))
    | exact hQ _ rfl
    | exact (hz0 _ (by assumption) (by assumption)).elim
    | (have h := hfin (by assumption)
       refine hQ _ ?_
       clear hQ hR hcp hcc hlp hst hk hfin hstep hev ht hp he hz0
       simp_all)
    | (exfalso
       have h := hfin (by assumption)
       clear hQ hR hcp hcc hlp hst hk hfin hstep hev ht hp he hz0
       simp_all)
end Go.Proofs.Ytnhmnfokbinplaa
