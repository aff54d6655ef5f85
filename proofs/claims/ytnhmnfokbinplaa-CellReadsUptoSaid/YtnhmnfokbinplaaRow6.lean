/- rows' keys: cell.Row. Own work; no condition. -/
import Derived.Test.YtnhmnfokbinplaaShi
import Derived.Test.YtnhmnfokbinplaaRow5
import Derived.Test.YtnhmnfokbinplaaAbsX
namespace Go.Proofs.Ytnhmnfokbinplaa
open Go Go.RowKit
set_option maxRecDepth 100000
set_option linter.unusedSimpArgs false
set_option linter.unusedVariables false

def textP : Option (List UInt8 × List UInt8) → List PV
  | none => [.str ⟨#[]⟩, .str ⟨#[]⟩, .bool false]
  | some (t, r) => [.str (toB t), .str (toB r), .bool true]
theorem text_c (s : ByteArray) (hs : s.size ≤ 1048577) : PCall Try.prog 92 [.str s] fun r => r = textP (textM (byts s)) := by
  refine ⟨fun m w vals hm hv => ?_⟩
  obtain ⟨v, hvl, hv2⟩ : ∃ v, vals = [v] ∧ RP m (.str s) v := by
    match vals, hv with
    | [v], hv => exact ⟨v, rfl, hv.2 0 _ v rfl rfl⟩
  subst hvl
  cases hv2 with
  | str =>
    refine Runs.of_calls c92 ((Try.text_walk s w hs).mono ?_)
    rintro e w' ⟨rfl, hb⟩
    refine ⟨_, textP (textM (byts s)), m, rfl, ?_, fun _ _ _ h => h, fun b o v h => ?_, fun _ _ _ h => .inl h, hb, rfl⟩
    · cases textM (byts s) with
      | none => exact .tup rfl (fun i c v hc hv => by
          match i, hc, hv with
          | 0, hc, hv => cases hc; cases hv; exact .p (.str _)
          | 1, hc, hv => cases hc; cases hv; exact .p (.str _)
          | 2, hc, hv => cases hc; cases hv; exact .p (.bool _))
      | some p => exact .tup rfl (fun i c v hc hv => by
          match i, hc, hv with
          | 0, hc, hv => cases hc; cases hv; exact .p (.str _)
          | 1, hc, hv => cases hc; cases hv; exact .p (.str _)
          | 2, hc, hv => cases hc; cases hv; exact .p (.bool _))
    · have h1 := hm b o v h
      rw [hb.cell (cell?_lt h1)]; exact h1

section
variable {P : Program} {cc : FuncId → List AV → List AObj → (AV → List AObj → Prop) → Prop} {f : FuncId} {aargs : List AV} {H : List AObj}
theorem txA (hcc : ACall P = cc) {y : ByteArray} {K : AV → List AObj → Prop} (h : PCall P f [.str y] fun r => r = textP (textM (byts y))) (ha : optL pureX aargs = some [.str y])
    (k0 : textM (byts y) = none → K (.tup [.p (.str ⟨#[]⟩), .p (.str ⟨#[]⟩), .p (.bool false)]) H) (k1 : ∀ t r : ByteArray, textM (byts y) = some (byts t, byts r) → K (.tup [.p (.str t), .p (.str r), .p (.bool true)]) H) : cc f aargs H K := by
  cases ht : textM (byts y) with
  | none =>
    rw [ht] at h
    exact xA hcc h ha (k0 ht)
  | some p =>
    rw [ht] at h
    exact xA hcc h ha (k1 (toB p.1) (toB p.2) ht)
end

theorem step_1 (l : List UInt8) : stepM (1 :: l) = some (Val.zero, l) := by rw [stepM, if_pos rfl]
theorem step_2 {l : List UInt8} (h : ¬ l.length < 8) : stepM (2 :: l) = some (num (backN (numL (l.take 8))), l.drop 8) := by
  rw [stepM, if_neg (by decide), if_pos rfl, if_neg h]; rfl
theorem step_3 {l : List UInt8} {t r : ByteArray} (h : textM l = some (byts t, byts r)) : stepM (3 :: l) = some (str t, byts r) := by
  rw [stepM, if_neg (by decide), if_neg (by decide), if_pos rfl, h]; rfl
theorem step_30 {l : List UInt8} (h : textM l = none) : stepM (3 :: l) = none := by
  rw [stepM, if_neg (by decide), if_neg (by decide), if_pos rfl, h]; rfl
theorem step_e {b : UInt8} (l : List UInt8) (h1 : ¬ b = 1) (h2 : ¬ b = 2) (h3 : ¬ b = 3) : stepM (b :: l) = none := by
  rw [stepM, if_neg h1, if_neg h2, if_neg h3]

set_option maxHeartbeats 2000000 in
theorem row_c (s0 : ByteArray) (hs0 : s0.size ≤ 1048577) : PCall Try.prog 31 [.str s0] fun r => r = rowOut (rowM (byts s0)) := by
  refine PCall.x (nt := 55) (res := [.tmp 2, .tmp 3]) mixed tt_ok [] Try.func31 rfl rfl rfl c31 (Nat.le_of_ble_eq_true rfl) ?_
  intro cp cc lp Q' hcp hcc hlp hQ
  repeat' (first
    | (with_reducible refine Nm.mk ?_; intro z hz)
    | (with_reducible refine IfB.mk ?_ ?_ <;> (intro h; cases h))
    | (with_reducible refine Asm.mk ?_ ?_; focus (show (_ : Bool) = true; kernel_rfl))
    | (with_reducible refine Asm.mk2 ?_ ?_)
    | ((fail_if_success (with_reducible refine hQ _ ?_)); (fail_if_success (with_reducible refine Side.mk ?_)); (fail_if_success (with_reducible refine isCP hcp ?_)); (fail_if_success (with_reducible refine isCC hcc ?_)); (fail_if_success (with_reducible refine isLP hlp ?_)); (fail_if_success (with_reducible refine Ix.mk ?_)); (fail_if_success (with_reducible refine SIx.mk ?_)); (fail_if_success (with_reducible refine SEx.mk ?_)); (fail_if_success (with_reducible refine EIx.mk ?_)); (fail_if_success (with_reducible refine RIx.mk ?_)); (fail_if_success (with_reducible show False)); (fail_if_success (with_reducible refine hR ?_ _ ?_ ?_ ?_ ?_ ?_)); (fail_if_success (with_reducible refine hR2 ?_ _ ?_ ?_ ?_ ?_ ?_)); cbv))
  refine mintT hlp 3 4 rfl ?_
  refine loopT (ι := ByteArray × List (List PV) × Nat × List Val × Nat) mixed tt_ok hcp hcc hlp [] (fun p => [(0, .p (.str p.1)), (4, .tok 0 p.2.1)]) (fun p => [.spare p.2.2.1 3]) (fun p => p.2.1.length = p.2.2.1 ∧ p.2.2.2.1.map Val.cells = p.2.1 ∧ p.1.size ≤ p.2.2.2.2 ∧ p.1.size + p.2.2.2.1.length ≤ s0.size ∧ rowM (byts s0) = (rowF p.2.2.2.2 (byts p.1)).map (p.2.2.2.1 ++ ·)) (fun p => p.1.size) (s0, [], 0, [], s0.size) 1 (fun _ => rfl) ⟨rfl, rfl, Nat.le_refl _, Nat.le_refl _, by show rowF _ _ = _; rw [byts_len]; cases rowF s0.size (byts s0) <;> rfl⟩ ⟨rfl, rfl, trivial⟩ rfl ?_
  rintro R ⟨s, L, m, acc, f⟩ ⟨hm, hL, hf, hsz, hM⟩ hR
  replace hm : L.length = m := hm
  replace hL : acc.map Val.cells = L := hL
  replace hf : s.size ≤ f := hf
  replace hsz : s.size + acc.length ≤ s0.size := hsz
  replace hM : rowM (byts s0) = (rowF f (byts s)).map (acc ++ ·) := hM
  have hok : okEs 3 L = true := by rw [← hL]; exact cell_ok acc
  have hLl : L.length = acc.length := by rw [← hL, List.length_map]
  obtain ⟨l, hl⟩ : ∃ l, byts s = l := ⟨_, rfl⟩
  have hll : l.length = s.size := by rw [← hl, byts_len]
  rw [hl] at hM
  have hne : (!sbeq s ⟨#[]⟩) = true → ∃ b tl, l = b :: tl := by
    intro h
    cases l with
    | nil => rw [toB_of hl] at h; simp [sbeq_eq, toB] at h
    | cons b tl => exact ⟨b, tl, rfl⟩
  have h0s : (!sbeq s ⟨#[]⟩) = true → Int.toNat 0 < s.size := by
    intro h; obtain ⟨b, tl, e⟩ := hne h; rw [← hll, e]; exact Nat.succ_pos _
  have hxl : ∀ {y : ByteArray}, s.extract ((some 1).getD (0 : Int)).toNat (none.getD (s.size : Int)).toNat = y → byts y = l.drop 1 := by
    intro y h
    rw [← h]
    show byts (s.extract 1 s.size) = _
    rw [byts_ext, hl, List.take_of_length_le (by omega)]
  have hys : ∀ {y : ByteArray}, s.extract ((some 1).getD (0 : Int)).toNat (none.getD (s.size : Int)).toNat = y → y.size ≤ 1048577 := by
    intro y h
    rw [← byts_len, hxl h, List.length_drop]; omega
  have hbb : ∀ {b : UInt8}, s[Int.toNat 0]? = some b → ∃ tl, l = b :: tl ∧ l.drop 1 = tl := by
    intro b h1
    have h3 : l[0]? = some b := by rw [← hl]; exact byts_get.1 h1
    cases l with
    | nil => simp at h3
    | cons x tl => simp at h3; subst h3; exact ⟨tl, rfl, rfl⟩
  have hfail : ∀ {b : UInt8}, s[Int.toNat 0]? = some b → stepM l = none → [PV.sl [], .int .i64 2] = rowOut (rowM (byts s0)) := by
    intro b h1 h2
    obtain ⟨tl, e, _⟩ := hbb h1
    have hf0 : f = (f - 1) + 1 := by rw [e, List.length_cons] at hll; omega
    rw [hM, hf0, rowF_none (by rw [e]; simp) h2]; rfl
  have hgo : ∀ {v : Val} {y : ByteArray} {m' : Nat} {L' : List (List PV)} {A}, stepM l = some (v, byts y) → L ++ [v.cells] = L' → L.length + [v.cells].length = m' → subL A.T [(0, .p (.str y)), (4, .tok 0 L')] → takeX A.H 1 = [.spare m' 3] → R A := fun {v y m' L' A} h1 h2 h3 h4 h5 => by
    have hlt := (stepM_len h1).1
    have hyl := byts_len y
    have hf0 : f = (f - 1) + 1 := by omega
    refine hR (y, L', m', acc ++ [v], f - 1) A ⟨by show L'.length = m'; rw [← h2, ← h3, List.length_append], by show (acc ++ [v]).map Val.cells = L'; rw [← h2, ← hL]; simp, by show y.size ≤ f - 1; omega, by show y.size + (acc ++ [v]).length ≤ s0.size; rw [List.length_append]; simp; omega, ?_⟩ (by show y.size < s.size; omega) h4 trivial h5
    show rowM (byts s0) = (rowF (f - 1) (byts y)).map ((acc ++ [v]) ++ ·)
    rw [hM, hf0, rowF_step h1, Option.map_map]
    congr 1
    funext r
    simp
  have hx1 : (!sbeq s ⟨#[]⟩) = true → (0 : Int) ≤ 1 ∧ (1 : Int) ≤ (s.size : Int) ∧ (s.size : Int) ≤ (s.size : Int) := by
    intro h; have := h0s h; omega
  have hget : ∀ {y z : ByteArray}, y.extract (none.getD (0 : Int)).toNat ((some 8).getD (y.size : Int)).toNat = z → s.extract ((some 1).getD (0 : Int)).toNat (none.getD (s.size : Int)).toNat = y → PCall Try.prog 91 [.str z] fun r => r = [.int .u64 (numL ((l.drop 1).take 8))] := by
    intro y z h1 h2
    have e : byts z = (l.drop 1).take 8 := by
      rw [← h1]
      show byts (y.extract 0 8) = _
      rw [byts_ext, hxl h2, List.drop_zero]
    rw [← e]
    exact get_c z (by rw [← byts_len, e, List.length_take]; omega)
  have h8a : ∀ {z : Int} {y : ByteArray}, decide (z < 8) = false → (y.size : Int) = z → (0 : Int) ≤ 0 ∧ (0 : Int) ≤ 8 ∧ 8 ≤ (y.size : Int) := by
    intro z y h1 h2; simp only [decide_eq_false_iff_not] at h1; omega
  have h8b : ∀ {z : Int} {y : ByteArray}, decide (z < 8) = false → (y.size : Int) = z → (0 : Int) ≤ 8 ∧ (8 : Int) ≤ (y.size : Int) ∧ (y.size : Int) ≤ (y.size : Int) := by
    intro z y h1 h2; simp only [decide_eq_false_iff_not] at h1; omega
  have hb1 : ∀ {b : UInt8} {c : Int} {k : Nat}, k < 256 → s[Int.toNat 0]? = some b → (b.toNat : Int) = c → decide (c = k) = true → ∃ tl, l = UInt8.ofNat k :: tl ∧ l.drop 1 = tl := by
    intro b c k hk h1 h2 h3
    obtain ⟨tl, e, e2⟩ := hbb h1
    simp only [decide_eq_true_eq] at h3
    rw [(chr_eq h2 k hk).1 h3] at e
    exact ⟨tl, e, e2⟩
  have r1 : ∀ {b : UInt8} {c : Int} {y : ByteArray}, s[Int.toNat 0]? = some b → (b.toNat : Int) = c → decide (c = 1) = true → s.extract ((some 1).getD (0 : Int)).toNat (none.getD (s.size : Int)).toNat = y → stepM l = some (Val.zero, byts y) := by
    intro b c y h1 h2 h3 h4
    obtain ⟨tl, e, e2⟩ := hb1 (k := 1) (by decide) h1 h2 h3
    rw [hxl h4, e2, e]; exact step_1 tl
  have r2e : ∀ {b : UInt8} {c z : Int} {y : ByteArray}, s[Int.toNat 0]? = some b → (b.toNat : Int) = c → decide (c = 2) = true → s.extract ((some 1).getD (0 : Int)).toNat (none.getD (s.size : Int)).toNat = y → decide (z < 8) = true → (y.size : Int) = z → stepM l = none := by
    intro b c z y h1 h2 h3 h4 h5 h6
    obtain ⟨tl, e, e2⟩ := hb1 (k := 2) (by decide) h1 h2 h3
    have hyl := byts_len y
    rw [hxl h4, e2] at hyl
    simp only [decide_eq_true_eq] at h5
    rw [e]; exact step_n0 (by omega)
  have r2 : ∀ {b : UInt8} {c z z4 z3 z2 : Int} {y x : ByteArray}, s[Int.toNat 0]? = some b → (b.toNat : Int) = c → decide (c = 2) = true → y.extract ((some 8).getD (0 : Int)).toNat (none.getD (y.size : Int)).toNat = x → s.extract ((some 1).getD (0 : Int)).toNat (none.getD (s.size : Int)).toNat = y → decide (z < 8) = false → (y.size : Int) = z → numL ((l.drop 1).take 8) = z4 → IntKind.u64.wrap ((BitVec.ofInt IntKind.u64.bits z4 ^^^ BitVec.ofInt IntKind.u64.bits 9223372036854775808).toNat : Int) = z3 → IntKind.i64.wrap z3 = z2 → stepM l = some (num z2, byts x) := by
    intro b c z z4 z3 z2 y x h1 h2 h3 h0 h4 h5 h6 h7 h8 h9
    obtain ⟨tl, e, e2⟩ := hb1 (k := 2) (by decide) h1 h2 h3
    have hyl := byts_len y
    have hyb := hxl h4
    rw [hyb, e2] at hyl
    simp only [decide_eq_false_iff_not] at h5
    have hxb : byts x = tl.drop 8 := by
      rw [← h0]
      show byts (y.extract 8 y.size) = _
      rw [byts_ext, hyb, e2, List.take_of_length_le (by omega)]
    have en : backN (numL (tl.take 8)) = z2 := by rw [← h9, ← h8, ← h7, e2]; rfl
    rw [hxb, e, ← en]; exact step_2 (by omega)
  have r3 : ∀ {b : UInt8} {c : Int} {y t r : ByteArray}, s[Int.toNat 0]? = some b → (b.toNat : Int) = c → decide (c = 3) = true → s.extract ((some 1).getD (0 : Int)).toNat (none.getD (s.size : Int)).toNat = y → textM (byts y) = some (byts t, byts r) → stepM l = some (str t, byts r) := by
    intro b c y t r h1 h2 h3 h4 h5
    obtain ⟨tl, e, e2⟩ := hb1 (k := 3) (by decide) h1 h2 h3
    rw [hxl h4, e2] at h5
    rw [e]; exact step_3 h5
  have r3e : ∀ {b : UInt8} {c : Int} {y : ByteArray}, s[Int.toNat 0]? = some b → (b.toNat : Int) = c → decide (c = 3) = true → s.extract ((some 1).getD (0 : Int)).toNat (none.getD (s.size : Int)).toNat = y → textM (byts y) = none → stepM l = none := by
    intro b c y h1 h2 h3 h4 h5
    obtain ⟨tl, e, e2⟩ := hb1 (k := 3) (by decide) h1 h2 h3
    rw [hxl h4, e2] at h5
    rw [e]; exact step_30 h5
  have re : ∀ {b : UInt8} {c : Int}, s[Int.toNat 0]? = some b → (b.toNat : Int) = c → decide (c = 1) = false → decide (c = 2) = false → decide (c = 3) = false → stepM l = none := by
    intro b c h1 h2 h3 h4 h5
    obtain ⟨tl, e, _⟩ := hbb h1
    simp only [decide_eq_false_iff_not] at h3 h4 h5
    rw [e]
    exact step_e tl (fun h => h3 ((chr_eq h2 1 (by decide)).2 h)) (fun h => h4 ((chr_eq h2 2 (by decide)).2 h)) (fun h => h5 ((chr_eq h2 3 (by decide)).2 h))
  repeat' (first
    | (with_reducible refine Nm.mk ?_; intro z hz)
    | (with_reducible refine IfB.mk ?_ ?_ <;> (intro h; cases h))
    | (with_reducible refine Asm.mk ?_ ?_; focus (first | (simp only [Option.getD_some, Option.getD_none]; first | exact hx1 (by assumption) | exact h8a (by assumption) (by assumption) | exact h8b (by assumption) (by assumption)) | (refine ⟨hm.symm, rfl, hok, rfl, ?_, ?_⟩ <;> (clear hR hQ; simp only [List.length_cons, List.length_nil, maxLen]; omega)) | (show (_ : Bool) = true; kernel_rfl)))
    | (with_reducible refine isCP hcp ?_; first | (refine iP hcp (hget (by assumption) (by assumption)) ?_; intro z hz))
    | (with_reducible refine isCC hcc ?_; first | (refine iA hcc (hget (by assumption) (by assumption)) rfl ?_; intro z hz))
    | (with_reducible refine SIx.at_ (by decide) (h0s (by assumption)) ?_; intro b c hb hc)
    | (with_reducible refine isCC hcc ?_; refine txA hcc (text_c _ (hys (by assumption))) rfl ?_ ?_ <;> intros)
    | (with_reducible refine Asm.mk2 ?_ ?_)
    | ((fail_if_success (with_reducible refine hQ _ ?_)); (fail_if_success (with_reducible refine Side.mk ?_)); (fail_if_success (with_reducible refine isCP hcp ?_)); (fail_if_success (with_reducible refine isCC hcc ?_)); (fail_if_success (with_reducible refine isLP hlp ?_)); (fail_if_success (with_reducible refine Ix.mk ?_)); (fail_if_success (with_reducible refine SIx.mk ?_)); (fail_if_success (with_reducible refine SEx.mk ?_)); (fail_if_success (with_reducible refine EIx.mk ?_)); (fail_if_success (with_reducible refine RIx.mk ?_)); (fail_if_success (with_reducible show False)); (fail_if_success (with_reducible refine hR ?_ _ ?_ ?_ ?_ ?_ ?_)); (fail_if_success (with_reducible refine hR2 ?_ _ ?_ ?_ ?_ ?_ ?_)); cbv))
  all_goals first
    | exact absurd (show (!false) = false by assumption) (by decide)
    | exact absurd (show (!true) = true by assumption) (by decide)
    | exact hgo (r1 hb hc (by assumption) (by assumption)) (by assumption) (by assumption) ⟨rfl, rfl, trivial⟩ rfl
    | exact hgo (r2 hb hc (by assumption) hz (by assumption) (by assumption) (by assumption) (by assumption) (by assumption) (by assumption)) (by assumption) (by assumption) ⟨rfl, rfl, trivial⟩ rfl
    | exact hgo (r3 hb hc (by assumption) (by assumption) (by assumption)) (by assumption) (by assumption) ⟨rfl, rfl, trivial⟩ rfl
    | exact hQ _ (hfail hb (r2e hb hc (by assumption) (by assumption) (by assumption) (by assumption)))
    | exact hQ _ (hfail hb (r3e hb hc (by assumption) (by assumption) (by assumption)))
    | exact hQ _ (hfail hb (re hb hc (by assumption) (by assumption) (by assumption)))
    | (refine hQ _ ?_
       have hs : s = ⟨#[]⟩ := by rw [sbeq_eq] at hz; simpa using hz
       have hln : l = [] := by rw [← hl, hs]; rfl
       rw [hM, hln, show rowF f [] = some [] by cases f <;> rfl, ← hL]
       show _ = [PV.sl ((acc ++ []).map Val.cells), .int .i64 0]
       rw [List.append_nil])
end Go.Proofs.Ytnhmnfokbinplaa
