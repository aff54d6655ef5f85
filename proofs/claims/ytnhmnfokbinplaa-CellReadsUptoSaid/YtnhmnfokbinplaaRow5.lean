/- rows' keys: tallyref's Row. Own work; no condition. -/
import Derived.Test.YtnhmnfokbinplaaRow4
import Derived.Test.YtnhmnfokbinplaaVec1
namespace Go.Proofs.Ytnhmnfokbinplaa
open Go Go.RowKit
set_option maxRecDepth 100000
set_option linter.unusedSimpArgs false
set_option linter.unusedVariables false

def rowOut : Option (List Val) → List PV
  | none => [.sl [], .int .i64 2]
  | some r => [.sl (r.map Val.cells), .int .i64 0]
theorem cell_ok (acc : List Val) : okEs 3 (acc.map Val.cells) = true := List.all_eq_true.2 fun e he => by obtain ⟨c, _, rfl⟩ := List.mem_map.1 he; rfl

theorem chr_eq {b : UInt8} {c : Int} (h : (b.toNat : Int) = c) (k : Nat) (hk : k < 256) : c = k ↔ b = UInt8.ofNat k := by
  refine ⟨fun e => ?_, fun e => ?_⟩
  · apply UInt8.toNat_inj.1
    rw [UInt8.toNat_ofNat']; omega
  · rw [← h, e, UInt8.toNat_ofNat']; omega
theorem escL_ge (l : List UInt8) : l.length ≤ (escL l).length := by
  induction l with
  | nil => simp
  | cons b r ih =>
    rw [escL, List.flatMap_cons, List.length_append]
    have : 1 ≤ (if b = 0 then [(0 : UInt8), 255] else [b]).length := by split <;> simp
    have h2 : (escL r).length = (r.flatMap fun b => if b = 0 then [(0 : UInt8), 255] else [b]).length := rfl
    simp only [List.length_cons]
    omega
theorem escL_app (a b : List UInt8) : escL (a ++ b) = escL a ++ escL b := by simp [escL]

set_option maxHeartbeats 2000000 in
theorem rrow_c (s0 : ByteArray) (hs0 : s0.size ≤ 1048577) : PCall Try.prog 32 [.str s0] fun r => r = rowOut (rowM (byts s0)) := by
  have hkz : ∀ {v : Val}, Val.zero = v → PCall Try.prog 96 [.sl [[.int .i64 v.k, .int .i64 v.n, .str v.s]]] fun r => r = [.str (toB [1])] := by
    rintro v rfl; exact key_c 0 0 _ (Nat.zero_le _)
  have hkn : ∀ {n : Int} {v : Val}, num n = v → PCall Try.prog 96 [.sl [[.int .i64 v.k, .int .i64 v.n, .str v.s]]] fun r => r = [.str (toB (2 :: bytesN (flipN n)))] := by
    rintro n v rfl; exact key_c 1 n _ (Nat.zero_le _)
  have hks : ∀ {t : ByteArray} {v : Val}, t.size ≤ 1048577 → str t = v → PCall Try.prog 96 [.sl [[.int .i64 v.k, .int .i64 v.n, .str v.s]]] fun r => r = [.str (toB (3 :: (escL (byts t) ++ [0, 1])))] := by
    rintro t v ht rfl; exact key_c 2 0 t ht
  refine PCall.x (nt := 93) (res := [.tmp 2, .tmp 3]) mixed tt_ok [] Try.func32 rfl rfl rfl c32 (Nat.le_of_ble_eq_true rfl) ?_
  intro cp cc lp Q' hcp hcc hlp hQ
  repeat' (first
    | (with_reducible refine Nm.mk ?_; intro z hz)
    | (with_reducible refine IfB.mk ?_ ?_ <;> (intro h; cases h))
    | (with_reducible refine Asm.mk ?_ ?_; focus (show (_ : Bool) = true; kernel_rfl))
    | (with_reducible refine Asm.mk2 ?_ ?_)
    | ((fail_if_success (with_reducible refine hQ _ ?_)); (fail_if_success (with_reducible refine Side.mk ?_)); (fail_if_success (with_reducible refine isCP hcp ?_)); (fail_if_success (with_reducible refine isCC hcc ?_)); (fail_if_success (with_reducible refine isLP hlp ?_)); (fail_if_success (with_reducible refine Ix.mk ?_)); (fail_if_success (with_reducible refine SIx.mk ?_)); (fail_if_success (with_reducible refine SEx.mk ?_)); (fail_if_success (with_reducible refine EIx.mk ?_)); (fail_if_success (with_reducible refine RIx.mk ?_)); (fail_if_success (with_reducible show False)); (fail_if_success (with_reducible refine hR ?_ _ ?_ ?_ ?_ ?_ ?_)); (fail_if_success (with_reducible refine hR2 ?_ _ ?_ ?_ ?_ ?_ ?_)); cbv))
  refine mintT hlp 3 4 rfl ?_
  refine loopT (ι := ByteArray × List (List PV) × Nat × List Val × Nat) mixed tt_ok hcp hcc hlp [] (fun p => [(4, .tok 0 p.2.1), (5, .p (.str p.1))]) (fun p => [.spare p.2.2.1 3]) (fun p => p.2.1.length = p.2.2.1 ∧ p.2.2.2.1.map Val.cells = p.2.1 ∧ p.1.size ≤ p.2.2.2.2 ∧ p.1.size + p.2.2.2.1.length ≤ s0.size ∧ rowM (byts s0) = (rowF p.2.2.2.2 (byts p.1)).map (p.2.2.2.1 ++ ·)) (fun p => p.1.size) (s0, [], 0, [], s0.size) 1 (fun _ => rfl) ⟨rfl, rfl, Nat.le_refl _, Nat.le_refl _, by show rowF _ _ = _; rw [byts_len]; cases rowF s0.size (byts s0) <;> rfl⟩ ⟨rfl, rfl, trivial⟩ rfl ?_
  rintro R ⟨s, L, m, acc, f⟩ ⟨hm, hL, hf, hsz, hM⟩ hR
  replace hm : L.length = m := hm
  replace hL : acc.map Val.cells = L := hL
  replace hf : s.size ≤ f := hf
  replace hsz : s.size + acc.length ≤ s0.size := hsz
  replace hM : rowM (byts s0) = (rowF f (byts s)).map (acc ++ ·) := hM
  have hok : okEs 3 L = true := by rw [← hL]; exact cell_ok acc
  have hLl : L.length = acc.length := by rw [← hL, List.length_map]
  obtain ⟨l, hl⟩ : ∃ l, byts s = l := ⟨_, rfl⟩
  have hll : l.length = s.size := by rw [← hl, byts_len]
  rw [hl] at hM
  have hne : (!sbeq s ⟨#[]⟩) = true → ∃ b tl, l = b :: tl := by
    intro h
    cases l with
    | nil => rw [toB_of hl] at h; simp [sbeq_eq, toB] at h
    | cons b tl => exact ⟨b, tl, rfl⟩
  have h0s : (!sbeq s ⟨#[]⟩) = true → Int.toNat 0 < s.size := by
    intro h; obtain ⟨b, tl, e⟩ := hne h; rw [← hll, e]; exact Nat.succ_pos _
  have hfail : l ≠ [] → stepM l = none → rowOut (rowM (byts s0)) = [.sl [], .int .i64 2] := by
    intro h1 h2
    have hf0 : f = (f - 1) + 1 := by
      have : l.length ≠ 0 := fun e => h1 (List.length_eq_zero_iff.1 e)
      omega
    rw [hM, hf0, rowF_none h1 h2]; rfl
  have hgo : ∀ {v : Val} {y : ByteArray} {m' : Nat} {L' : List (List PV)} {A}, stepM l = some (v, byts y) → L ++ [v.cells] = L' → L.length + [v.cells].length = m' → subL A.T [(4, .tok 0 L'), (5, .p (.str y))] → takeX A.H 1 = [.spare m' 3] → R A := fun {v y m' L' A} h1 h2 h3 h4 h5 => by
    have hlt := (stepM_len h1).1
    have hyl := byts_len y
    have hf0 : f = (f - 1) + 1 := by omega
    refine hR (y, L', m', acc ++ [v], f - 1) A ⟨by show L'.length = m'; rw [← h2, ← h3, List.length_append], by show (acc ++ [v]).map Val.cells = L'; rw [← h2, ← hL]; simp, by show y.size ≤ f - 1; omega, by show y.size + (acc ++ [v]).length ≤ s0.size; rw [List.length_append]; simp; omega, ?_⟩ (by show y.size < s.size; omega) h4 trivial h5
    show rowM (byts s0) = (rowF (f - 1) (byts y)).map ((acc ++ [v]) ++ ·)
    rw [hM, hf0, rowF_step h1, Option.map_map]
    congr 1
    funext r
    simp
  have hx9 : ∀ {z : Int}, (s.size : Int) = z → decide (z < 9) = false → (0 : Int) ≤ 1 ∧ (1 : Int) ≤ 9 ∧ 9 ≤ (s.size : Int) := by
    intro z h1 h2; simp only [decide_eq_false_iff_not] at h2; omega
  have hnum : ∀ {y : ByteArray}, s.extract ((some 1).getD (0 : Int)).toNat ((some 9).getD (s.size : Int)).toNat = y → PCall Try.prog 94 [.str y] fun r => r = [.int .u64 (numL ((l.drop 1).take 8))] := by
    intro y h
    have e : byts y = (l.drop 1).take 8 := by
      rw [← h]
      show byts (s.extract 1 9) = _
      rw [byts_ext, hl, List.drop_take]
    rw [← e]
    exact num_get y (by rw [← byts_len, e, List.length_take]; omega)
  have hnil : (!sbeq s ⟨#[]⟩) = true → l ≠ [] := by
    intro h e; obtain ⟨b, tl, e2⟩ := hne h; rw [e] at e2; cases e2
  obtain ⟨S, hSd⟩ : ∃ S : Val → List UInt8 → Prop, S = fun v kl => (pre l kl → stepM l = some (v, l.drop kl.length)) ∧ (¬ pre l kl → stepM l = none) := ⟨_, rfl⟩
  have hc0 : ∀ {b : UInt8} {c : Int}, s[Int.toNat 0]? = some b → (b.toNat : Int) = c → ∃ tl, l = b :: tl ∧ ∀ k : Nat, k < 256 → (c = k ↔ b = UInt8.ofNat k) := by
    intro b c h1 h2
    have h3 : l[0]? = some b := by rw [← hl]; exact byts_get.1 h1
    cases l with
    | nil => simp at h3
    | cons x tl =>
      simp only [List.getElem?_cons_zero, Option.some.injEq] at h3
      subst h3
      refine ⟨tl, rfl, fun k hk => ⟨fun e => ?_, fun e => ?_⟩⟩
      · apply UInt8.toNat_inj.1
        rw [UInt8.toNat_ofNat']; omega
      · rw [← h2, e, UInt8.toNat_ofNat']; omega
  have hS0 : ∀ {b : UInt8} {c : Int} {v : Val}, s[Int.toNat 0]? = some b → (b.toNat : Int) = c → decide (c = 2) = false → decide (c = 3) = false → Val.zero = v → S v [1] := by
    intro b c v h1 h2 h3 h4 h5
    obtain ⟨tl, e, hk⟩ := hc0 h1 h2
    simp only [decide_eq_false_iff_not] at h3 h4
    rw [hSd, ← h5, e]
    exact step_z (fun h => h3 ((hk 2 (by decide)).2 h)) (fun h => h4 ((hk 3 (by decide)).2 h))
  have hE2 : ∀ {b : UInt8} {c z : Int}, s[Int.toNat 0]? = some b → (b.toNat : Int) = c → decide (c = 2) = true → (s.size : Int) = z → decide (z < 9) = true → [PV.sl [], .int .i64 2] = rowOut (rowM (byts s0)) := by
    intro b c z h1 h2 h3 h4 h5
    obtain ⟨tl, e, hk⟩ := hc0 h1 h2
    simp only [decide_eq_true_eq] at h3 h5
    have hb2 := (hk 2 (by decide)).1 h3
    refine (hfail (by rw [e]; simp) ?_).symm
    rw [e, hb2]
    refine step_n0 ?_
    rw [e, List.length_cons] at hll
    omega
  have hS2 : ∀ {b : UInt8} {c z4 z3 z2 zs : Int} {v : Val}, s[Int.toNat 0]? = some b → (b.toNat : Int) = c → decide (c = 2) = true → decide (zs < 9) = false → (s.size : Int) = zs → numL ((l.drop 1).take 8) = z4 → IntKind.u64.wrap ((BitVec.ofInt IntKind.u64.bits z4 ^^^ BitVec.ofInt IntKind.u64.bits 9223372036854775808).toNat : Int) = z3 → IntKind.i64.wrap z3 = z2 → num z2 = v → S v (2 :: bytesN (flipN z2)) := by
    intro b c z4 z3 z2 zs v h1 h2 h3 h5 h4 h6 h7 h8 h9
    obtain ⟨tl, e, hk⟩ := hc0 h1 h2
    simp only [decide_eq_true_eq] at h3
    simp only [decide_eq_false_iff_not] at h5
    have hb2 : b = 2 := (hk 2 (by decide)).1 h3
    subst hb2
    rw [e, List.length_cons] at hll
    obtain ⟨n, e1, e2, e3⟩ := step_n (l := tl) (by omega)
    have en : n = z2 := by rw [← h8, ← h7, ← h6, e, ← e1]; rfl
    subst en
    rw [hSd, e, ← h9]
    exact ⟨fun _ => e3, fun h => absurd e2 h⟩
  have e1 : ∀ {v : Val} {kl : List UInt8} {key : ByteArray} {z1 z2 : Int}, l ≠ [] → S v kl → toB kl = key → decide (z1 < z2) = true → (s.size : Int) = z1 → (key.size : Int) = z2 → [PV.sl [], .int .i64 2] = rowOut (rowM (byts s0)) := by
    intro v kl key z1 z2 h0 h1 h2 h3 h4 h5
    rw [hSd] at h1
    refine (hfail h0 (h1.2 ?_)).symm
    have := cmp_1 hl h4 h5 h3
    rwa [← h2, byts_toB] at this
  have e2 : ∀ {v : Val} {kl : List UInt8} {key y : ByteArray} {z : Int}, l ≠ [] → S v kl → toB kl = key → (!sbeq y key) = true → s.extract (none.getD (0 : Int)).toNat ((some z).getD (s.size : Int)).toNat = y → (key.size : Int) = z → [PV.sl [], .int .i64 2] = rowOut (rowM (byts s0)) := by
    intro v kl key y z h0 h1 h2 h3 h4 h5
    rw [hSd] at h1
    refine (hfail h0 (h1.2 ?_)).symm
    have := cmp_2 hl h5 h4 h3
    rwa [← h2, byts_toB] at this
  have e3 : ∀ {v : Val} {kl : List UInt8} {key y x : ByteArray} {z z' : Int}, S v kl → toB kl = key → (!sbeq y key) = false → s.extract (none.getD (0 : Int)).toNat ((some z).getD (s.size : Int)).toNat = y → (key.size : Int) = z → s.extract ((some z').getD 0).toNat (none.getD (s.size : Int)).toNat = x → (key.size : Int) = z' → stepM l = some (v, byts x) := by
    intro v kl key y x z z' h1 h2 h3 h4 h5 h6 h7
    rw [hSd] at h1
    have hzz : z' = z := by rw [← h7, h5]
    subst hzz
    obtain ⟨p1, p2⟩ := cmp_3 hl h5 h4 h3 h6
    rw [← h2, byts_toB] at p1 p2
    rw [p2]
    exact h1.1 p1
  have hk1 : ∀ {z1 z2 z3 : Int} {key : ByteArray}, (key.size : Int) = z3 → decide (z1 < z2) = false → (s.size : Int) = z1 → (key.size : Int) = z2 → (0 : Int) ≤ 0 ∧ 0 ≤ z3 ∧ z3 ≤ (s.size : Int) := by
    intro z1 z2 z3 key h1 h2 h3 h4; simp only [decide_eq_false_iff_not] at h2; omega
  have hk2 : ∀ {z1 z2 z3 : Int} {key : ByteArray}, (key.size : Int) = z3 → decide (z1 < z2) = false → (s.size : Int) = z1 → (key.size : Int) = z2 → 0 ≤ z3 ∧ z3 ≤ (s.size : Int) ∧ (s.size : Int) ≤ (s.size : Int) := by
    intro z1 z2 z3 key h1 h2 h3 h4; simp only [decide_eq_false_iff_not] at h2; omega
  repeat' (first
    | (with_reducible refine Nm.mk ?_; intro z hz)
    | (with_reducible refine IfB.mk ?_ ?_ <;> (intro h; cases h))
    | (with_reducible refine Asm.mk ?_ ?_; focus (first | (simp only [Option.getD_some, Option.getD_none]; first | exact hx9 (by assumption) (by assumption) | exact hk1 (by assumption) (by assumption) (by assumption) (by assumption) | exact hk2 (by assumption) (by assumption) (by assumption) (by assumption)) | (refine ⟨hm.symm, rfl, hok, rfl, ?_, ?_⟩ <;> (clear hR hQ; simp only [List.length_cons, List.length_nil, maxLen]; omega)) | (show (_ : Bool) = true; kernel_rfl)))
    | (with_reducible refine isCP hcp ?_; first | (refine vP hcp (none_r) ?_; intro v hv) | (refine iP hcp (hnum (by assumption)) ?_; intro z hz) | (refine vP hcp (num_r _) ?_; intro v hv) | (refine vP hcp (str_r _) ?_; intro v hv) | (refine sP hcp (hkn (by assumption)) ?_; intro z hz) | (refine sP hcp (hkz (by assumption)) ?_; intro z hz))
    | (with_reducible refine isCC hcc ?_; first | (refine vA hcc (none_r) rfl ?_; intro v hv) | (refine iA hcc (hnum (by assumption)) rfl ?_; intro z hz) | (refine vA hcc (num_r _) rfl ?_; intro v hv) | (refine vA hcc (str_r _) rfl ?_; intro v hv) | (refine sA hcc (hkn (by assumption)) rfl ?_; intro z hz) | (refine sA hcc (hkz (by assumption)) rfl ?_; intro z hz))
    | (with_reducible refine SIx.at_ (by decide) (h0s (by assumption)) ?_; intro b c hb hc)
    | (with_reducible refine Asm.mk2 ?_ ?_)
    | ((fail_if_success (with_reducible refine hQ _ ?_)); (fail_if_success (with_reducible refine Side.mk ?_)); (fail_if_success (with_reducible refine isCP hcp ?_)); (fail_if_success (with_reducible refine isCC hcc ?_)); (fail_if_success (with_reducible refine isLP hlp ?_)); (fail_if_success (with_reducible refine Ix.mk ?_)); (fail_if_success (with_reducible refine SIx.mk ?_)); (fail_if_success (with_reducible refine SEx.mk ?_)); (fail_if_success (with_reducible refine EIx.mk ?_)); (fail_if_success (with_reducible refine RIx.mk ?_)); (fail_if_success (with_reducible show False)); (fail_if_success (with_reducible refine hR ?_ _ ?_ ?_ ?_ ?_ ?_)); (fail_if_success (with_reducible refine hR2 ?_ _ ?_ ?_ ?_ ?_ ?_)); cbv))
  all_goals first
    | exact hQ _ (hE2 (by assumption) (by assumption) (by assumption) (by assumption) (by assumption))
    | exact hQ _ (e1 (hnil (by assumption)) (hS0 (by assumption) (by assumption) (by assumption) (by assumption) (by assumption)) (by assumption) (by assumption) (by assumption) (by assumption))
    | exact hQ _ (e2 (hnil (by assumption)) (hS0 (by assumption) (by assumption) (by assumption) (by assumption) (by assumption)) (by assumption) (by assumption) (by assumption) (by assumption))
    | exact hgo (e3 (hS0 (by assumption) (by assumption) (by assumption) (by assumption) hv) (by assumption) (by assumption) (by assumption) (by assumption) (by assumption) (by assumption)) (by assumption) (by assumption) ⟨rfl, rfl, trivial⟩ rfl
    | exact hQ _ (e1 (hnil (by assumption)) (hS2 (by assumption) (by assumption) (by assumption) (by assumption) (by assumption) (by assumption) (by assumption) (by assumption) hv) (by assumption) (by assumption) (by assumption) (by assumption))
    | exact hQ _ (e2 (hnil (by assumption)) (hS2 (by assumption) (by assumption) (by assumption) (by assumption) (by assumption) (by assumption) (by assumption) (by assumption) hv) (by assumption) (by assumption) (by assumption) (by assumption))
    | exact hgo (e3 (hS2 (by assumption) (by assumption) (by assumption) (by assumption) (by assumption) (by assumption) (by assumption) (by assumption) hv) (by assumption) (by assumption) (by assumption) (by assumption) (by assumption) (by assumption)) (by assumption) (by assumption) ⟨rfl, rfl, trivial⟩ rfl
    | (refine hQ _ ?_
       have hs : s = ⟨#[]⟩ := by rw [sbeq_eq] at hz; simpa using hz
       have hln : l = [] := by rw [← hl, hs]; rfl
       rw [hM, hln, show rowF f [] = some [] by cases f <;> rfl, ← hL]
       show _ = [PV.sl ((acc ++ []).map Val.cells), .int .i64 0]
       rw [List.append_nil])
    | skip
  have hb3 : ∃ tl, l = 3 :: tl := by
    obtain ⟨tl, e, hk⟩ := hc0 hb hc
    have h3 : decide (c = 3) = true := by assumption
    simp only [decide_eq_true_eq] at h3
    exact ⟨tl, by rw [e, (hk 3 (by decide)).1 h3]; rfl⟩
  obtain ⟨tl, htl⟩ := hb3
  have hln : l ≠ [] := by rw [htl]; simp
  have hvz : Val.zero = v := hv
  clear hS0 hS2 hE2 hc0 hnum hx9
  refine loopT (ι := Int × ByteArray) mixed tt_ok hcp hcc hlp [4, 5, 6] (fun p => [(7, .p (.str p.2)), (8, .p (.int .i64 p.1))]) (fun _ => [.spare m 3, .cells [.p (.int .i64 v.k), .p (.int .i64 v.n), .p (.str v.s)]]) (fun p => 0 ≤ p.1 ∧ ∃ rest, l = 3 :: (escL (byts p.2) ++ rest) ∧ p.1.toNat = 1 + (escL (byts p.2)).length) (fun p => s.size - p.1.toNat) (1, ⟨#[]⟩) 2 (fun _ => rfl) ⟨by decide, tl, htl, rfl⟩ ⟨rfl, rfl, trivial⟩ rfl ?_
  rintro R2 ⟨i, t⟩ ⟨hi0, rest, hrest, hiL⟩ hR2
  replace hi0 : 0 ≤ i := hi0
  replace hrest : l = 3 :: (escL (byts t) ++ rest) := hrest
  replace hiL : i.toNat = 1 + (escL (byts t)).length := hiL
  have hsr : s.size = i.toNat + rest.length := by rw [← hll, hrest, List.length_cons, List.length_append]; omega
  have hge : ∀ z : Int, (s.size : Int) = z → (decide (z ≤ i) = false → i.toNat < s.size) ∧ (decide (z ≤ i) = true → rest = []) := by
    intro z h
    simp only [decide_eq_true_eq, decide_eq_false_iff_not]
    exact ⟨fun _ => by omega, fun _ => List.length_eq_zero_iff.1 (by omega)⟩
  have hlt : ∀ {z : Int}, decide (z ≤ i) = false → (s.size : Int) = z → i.toNat < s.size := fun h h' => (hge _ h').1 h
  have hw1 : ∀ {z z2 w : Int}, decide (w = z2) = false → decide (z ≤ i) = false → (s.size : Int) = z → (s.size : Int) = z2 → IntKind.i64.wrap (i + 1) = w → 0 ≤ w ∧ w.toNat < s.size := by
    intro z z2 w h1 h2 h3 h4 h5
    have := hlt h2 h3
    rw [wrap_in (by omega)] at h5
    simp only [decide_eq_false_iff_not] at h1
    omega
  have hext : ∀ {z w : Int}, decide (z ≤ i) = false → (s.size : Int) = z → IntKind.i64.wrap (i + 1) = w → 0 ≤ i ∧ i ≤ w ∧ w ≤ (s.size : Int) := by
    intro z w h2 h3 h5
    have := hlt h2 h3
    rw [wrap_in (by omega)] at h5
    omega
  have hsix : ∀ {z z2 w w' : Int} {K : Int → Prop}, (∀ b c, s[w.toNat]? = some b → (b.toNat : Int) = c → K c) → decide (w' = z2) = false → decide (z ≤ i) = false → (s.size : Int) = z → (s.size : Int) = z2 → IntKind.i64.wrap (i + 1) = w' → IntKind.i64.wrap (i + 1) = w → SIx s w K := by
    intro z z2 w w' K g h1 h2 h3 h4 h5 h6
    have hww : w' = w := by rw [← h5, h6]
    subst hww
    obtain ⟨a1, a2⟩ := hw1 h1 h2 h3 h4 h5
    exact SIx.at_ a1 a2 g
  have hts : t.size ≤ 1048577 := by
    have := escL_ge (byts t)
    rw [byts_len] at this
    omega
  have hr0 : ∀ {b : UInt8}, s[i.toNat]? = some b → ∃ r', rest = b :: r' := by
    intro b h
    have h1 : l[i.toNat]? = some b := by rw [← hl]; exact byts_get.1 h
    rw [hrest, hiL, show 1 + (escL (byts t)).length = (escL (byts t)).length + 1 by omega, List.getElem?_cons_succ, List.getElem?_append_right (Nat.le_refl _), Nat.sub_self] at h1
    cases rest with
    | nil => simp at h1
    | cons x r => simp at h1; subst h1; exact ⟨r, rfl⟩
  have hr1 : ∀ {b : UInt8} {w : Int}, IntKind.i64.wrap (i + 1) = w → s[w.toNat]? = some b → ∃ x r', rest = x :: b :: r' := by
    intro b w hw h
    rw [wrap_in (by omega)] at hw
    subst hw
    have h1 : l[(i + 1).toNat]? = some b := by rw [← hl]; exact byts_get.1 h
    rw [hrest, show (i + 1).toNat = ((escL (byts t)).length + 1) + 1 by omega, List.getElem?_cons_succ, List.getElem?_append_right (by omega), show (escL (byts t)).length + 1 - (escL (byts t)).length = 1 by omega] at h1
    match rest, h1 with
    | [], h1 => simp at h1
    | [x], h1 => simp at h1
    | x :: y :: r, h1 => simp at h1; subst h1; exact ⟨x, r, rfl⟩
  have hxb : ∀ {w : Int} {y : ByteArray} {b : UInt8}, s.extract ((some i).getD 0).toNat ((some w).getD (s.size : Int)).toNat = y → IntKind.i64.wrap (i + 1) = w → s[i.toNat]? = some b → byts y = [b] := by
    intro w y b h1 h2 h3
    rw [wrap_in (by omega)] at h2
    subst h2
    rw [← h1]
    show byts (s.extract i.toNat (i + 1).toNat) = [b]
    rw [show (i + 1).toNat = i.toNat + 1 by omega, byts_ext1 h3]
  have hxs : ∀ {w : Int} {y : ByteArray} {b : UInt8}, s.extract ((some i).getD 0).toNat ((some w).getD (s.size : Int)).toNat = y → IntKind.i64.wrap (i + 1) = w → s[i.toNat]? = some b → ¬ maxI < ((t.size + y.size : Nat) : Int) := by
    intro w y b h1 h2 h3
    have : y.size = 1 := by rw [← byts_len, hxb h1 h2 h3]; rfl
    show ¬ (9223372036854775807 : Int) < ((t.size + y.size : Nat) : Int)
    omega
  have hSA : ∀ {b : UInt8} {c w z : Int} {v : Val}, s[i.toNat]? = some b → (b.toNat : Int) = c → decide (c = 0) = true → decide (w = z) = true → IntKind.i64.wrap (i + 1) = w → (s.size : Int) = z → str t = v → S v (3 :: (escL (byts t) ++ [0, 1])) := by
    intro b c w z v h1 h2 h3 h4 h5 h6 h7
    obtain ⟨r', hr⟩ := hr0 h1
    simp only [decide_eq_true_eq] at h3 h4
    have hb0 : b = 0 := (chr_eq h2 0 (by decide)).1 h3
    rw [wrap_in (by omega)] at h5
    rw [hr, List.length_cons] at hsr
    have hn : r' = [] := List.length_eq_zero_iff.1 (by omega)
    rw [hSd, hrest, hr, hb0, hn, ← h7]
    exact step_s rfl (by simp)
  have hSB : ∀ {b b2 : UInt8} {c c2 w : Int} {v : Val}, s[i.toNat]? = some b → (b.toNat : Int) = c → decide (c = 0) = true → (!decide (c2 = 255)) = true → (b2.toNat : Int) = c2 → s[w.toNat]? = some b2 → IntKind.i64.wrap (i + 1) = w → str t = v → S v (3 :: (escL (byts t) ++ [0, 1])) := by
    intro b b2 c c2 w v h1 h2 h3 h4 h5 h6 h7 h8
    obtain ⟨r', hr⟩ := hr0 h1
    obtain ⟨x, r2, hr2⟩ := hr1 h7 h6
    simp only [decide_eq_true_eq] at h3
    have hb0 : b = 0 := (chr_eq h2 0 (by decide)).1 h3
    have hb2 : ¬ b2 = 255 := by
      have h4' : ¬ c2 = 255 := by simpa using h4
      exact fun e => h4' ((chr_eq h5 255 (by decide)).2 e)
    rw [hr] at hr2
    simp only [List.cons.injEq] at hr2
    rw [hSd, hrest, hr, hb0, hr2.2, ← h8]
    exact step_s rfl (by simpa using hb2)
  have hcon : ∀ {c c' : Int} {b b' : UInt8}, decide (c = 0) = true → decide (c' = 0) = false → (b.toNat : Int) = c → (b'.toNat : Int) = c' → s[i.toNat]? = some b → s[i.toNat]? = some b' → False := by
    intro c c' b b' h1 h2 h3 h4 h5 h6
    rw [h5] at h6
    cases h6
    rw [h3] at h4
    subst h4
    rw [h1] at h2
    cases h2
  have h2go : ∀ {r' : List UInt8} {t' : ByteArray} {w : Int} {A}, l = 3 :: (escL (byts t') ++ r') → w.toNat = 1 + (escL (byts t')).length → i < w → subL A.T [(7, .p (.str t')), (8, .p (.int .i64 w))] → subP A.T _ _ → takeX A.H 2 = _ → R2 A := fun {r' t' w A} h1 h2 h3 h4 h5 h6 => by
    have : l.length = 1 + ((escL (byts t')).length + r'.length) := by rw [h1, List.length_cons, List.length_append]; omega
    exact hR2 (w, t') A ⟨by show 0 ≤ w; omega, r', h1, h2⟩ (by show s.size - w.toNat < s.size - i.toNat; omega) h4 h5 h6
  have hgA : ∀ {b b2 : UInt8} {c c2 w wy wa wb : Int} {y t' : ByteArray} {A}, s[i.toNat]? = some b → (b.toNat : Int) = c → decide (c = 0) = true → s[w.toNat]? = some b2 → IntKind.i64.wrap (i + 1) = w → (b2.toNat : Int) = c2 → (!decide (c2 = 255)) = false → s.extract ((some i).getD 0).toNat ((some wy).getD (s.size : Int)).toNat = y → IntKind.i64.wrap (i + 1) = wy → t ++ y = t' → IntKind.i64.wrap (i + 1) = wa → IntKind.i64.wrap (wa + 1) = wb → subL A.T [(7, .p (.str t')), (8, .p (.int .i64 wb))] → subP A.T _ _ → takeX A.H 2 = _ → R2 A := fun {b b2 c c2 w wy wa wb y t' A} h1 h2 h3 h4 h5 h6 h7 h8 h9 h10 h11 h12 h13 h14 h15 => by
    obtain ⟨x, r', hr⟩ := hr1 h5 h4
    obtain ⟨r2, hr2⟩ := hr0 h1
    have hy := hxb h8 h9 h1
    simp only [decide_eq_true_eq] at h3
    have hb0 : b = 0 := (chr_eq h2 0 (by decide)).1 h3
    have hb2 : b2 = 255 := (chr_eq h6 255 (by decide)).1 (by simpa using h7)
    rw [hr2, hb0] at hr
    simp only [List.cons.injEq] at hr
    rw [wrap_in (by omega)] at h11
    subst h11
    rw [wrap_in (by omega)] at h12
    subst h12
    refine h2go (r' := r') ?_ ?_ (by omega) h13 h14 h15
    · rw [hrest, hr2, ← h10, byts_app, hy, hb0, hr.2, hb2, escL_app]
      simp [escL]
    · rw [← h10, byts_app, hy, hb0, escL_app, List.length_append]
      have e0 : (escL [(0 : UInt8)]).length = 2 := rfl
      rw [e0]
      omega
  have hgB : ∀ {b : UInt8} {c wy wb : Int} {y t' : ByteArray} {A}, s[i.toNat]? = some b → (b.toNat : Int) = c → decide (c = 0) = false → s.extract ((some i).getD 0).toNat ((some wy).getD (s.size : Int)).toNat = y → IntKind.i64.wrap (i + 1) = wy → t ++ y = t' → IntKind.i64.wrap (i + 1) = wb → subL A.T [(7, .p (.str t')), (8, .p (.int .i64 wb))] → subP A.T _ _ → takeX A.H 2 = _ → R2 A := fun {b c wy wb y t' A} h1 h2 h3 h8 h9 h10 h12 h13 h14 h15 => by
    obtain ⟨r2, hr2⟩ := hr0 h1
    have hy := hxb h8 h9 h1
    simp only [decide_eq_false_iff_not] at h3
    have hb0 : ¬ b = 0 := fun e => h3 ((chr_eq h2 0 (by decide)).2 e)
    rw [wrap_in (by omega)] at h12
    subst h12
    refine h2go (r' := r2) ?_ ?_ (by omega) h13 h14 h15
    · rw [hrest, hr2, ← h10, byts_app, hy, escL_app]
      simp [escL, hb0]
    · rw [← h10, byts_app, hy, escL_app, List.length_append]
      have e0 : (escL [b]).length = 1 := by simp [escL, hb0]
      rw [e0]
      omega
  repeat' (first
    | (with_reducible refine Nm.mk ?_; intro z hz)
    | (with_reducible refine IfB.mk ?_ ?_ <;> (intro h; cases h))
    | (with_reducible refine Asm.mk ?_ ?_; focus (first | (simp only [Option.getD_some, Option.getD_none]; first | exact hk1 (by assumption) (by assumption) (by assumption) (by assumption) | exact hk2 (by assumption) (by assumption) (by assumption) (by assumption) | exact hext (by assumption) (by assumption) (by assumption)) | exact hxs (by assumption) (by assumption) (by assumption) | (refine ⟨hm.symm, rfl, hok, rfl, ?_, ?_⟩ <;> (clear hR hR2 hQ; simp only [List.length_cons, List.length_nil, maxLen]; omega)) | (show (_ : Bool) = true; kernel_rfl)))
    | (with_reducible refine isCP hcp ?_; first | (refine vP hcp (str_r _) ?_; intro v hv) | (refine sP hcp (hks hts (by assumption)) ?_; intro z hz))
    | (with_reducible refine isCC hcc ?_; first | (refine vA hcc (str_r _) rfl ?_; intro v hv) | (refine sA hcc (hks hts (by assumption)) rfl ?_; intro z hz))
    | (with_reducible refine SIx.at_ hi0 (hlt (by assumption) (by assumption)) ?_; intro b c hb hc)
    | (with_reducible refine hsix ?_ (by assumption) (by assumption) (by assumption) (by assumption) (by assumption) (by assumption); intro b2 c2 hb2 hc2)
    | (with_reducible refine Asm.mk2 ?_ ?_)
    | ((fail_if_success (with_reducible refine hQ _ ?_)); (fail_if_success (with_reducible refine Side.mk ?_)); (fail_if_success (with_reducible refine isCP hcp ?_)); (fail_if_success (with_reducible refine isCC hcc ?_)); (fail_if_success (with_reducible refine isLP hlp ?_)); (fail_if_success (with_reducible refine Ix.mk ?_)); (fail_if_success (with_reducible refine SIx.mk ?_)); (fail_if_success (with_reducible refine SEx.mk ?_)); (fail_if_success (with_reducible refine EIx.mk ?_)); (fail_if_success (with_reducible refine RIx.mk ?_)); (fail_if_success (with_reducible show False)); (fail_if_success (with_reducible refine hR ?_ _ ?_ ?_ ?_ ?_ ?_)); (fail_if_success (with_reducible refine hR2 ?_ _ ?_ ?_ ?_ ?_ ?_)); cbv))
  all_goals first
    | exact hQ _ (hfail hln (by rw [hrest, (hge _ (by assumption)).2 (by assumption)]; exact step_s0 rfl)).symm
    | exact hQ _ (e1 hln (hSA (by assumption) (by assumption) (by assumption) (by assumption) (by assumption) (by assumption) hv) (by assumption) (by assumption) (by assumption) (by assumption))
    | exact hQ _ (e2 hln (hSA (by assumption) (by assumption) (by assumption) (by assumption) (by assumption) (by assumption) hv) (by assumption) (by assumption) (by assumption) (by assumption))
    | exact hgo (e3 (hSA (by assumption) (by assumption) (by assumption) (by assumption) (by assumption) (by assumption) hv) (by assumption) (by assumption) (by assumption) (by assumption) (by assumption) (by assumption)) (by assumption) (by assumption) ⟨rfl, rfl, trivial⟩ rfl
    | exact hQ _ (e1 hln (hSB (by assumption) (by assumption) (by assumption) (by assumption) (by assumption) (by assumption) (by assumption) hv) (by assumption) (by assumption) (by assumption) (by assumption))
    | exact hQ _ (e2 hln (hSB (by assumption) (by assumption) (by assumption) (by assumption) (by assumption) (by assumption) (by assumption) hv) (by assumption) (by assumption) (by assumption) (by assumption))
    | exact hgo (e3 (hSB (by assumption) (by assumption) (by assumption) (by assumption) (by assumption) (by assumption) (by assumption) hv) (by assumption) (by assumption) (by assumption) (by assumption) (by assumption) (by assumption)) (by assumption) (by assumption) ⟨rfl, rfl, trivial⟩ rfl
    | skip
  all_goals first
    | exact (hcon (by assumption) (by assumption) (by assumption) (by assumption) (by assumption) (by assumption)).elim
    | exact hgA hb hc (by assumption) hb2 (by assumption) hc2 (by assumption) (by assumption) (by assumption) (by assumption) (by assumption) hz ⟨rfl, rfl, trivial⟩ ⟨rfl, rfl, rfl, trivial⟩ rfl
    | exact hgB hb hc (by assumption) (by assumption) (by assumption) (by assumption) hz ⟨rfl, rfl, trivial⟩ ⟨rfl, rfl, rfl, trivial⟩ rfl
end Go.Proofs.Ytnhmnfokbinplaa
