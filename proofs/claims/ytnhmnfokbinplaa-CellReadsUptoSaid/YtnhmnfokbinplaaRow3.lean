/- rows' keys: the key of one value, tallyref's. Own work; no condition. -/
import Derived.Test.YtnhmnfokbinplaaRow2
namespace Go.Proofs.Ytnhmnfokbinplaa
open Go Go.RowKit
set_option maxRecDepth 100000
set_option linter.unusedSimpArgs false
set_option linter.unusedVariables false

def toB (l : List UInt8) : ByteArray := ⟨l.toArray⟩
theorem byts_toB (l : List UInt8) : byts (toB l) = l := rfl
theorem toB_byts (s : ByteArray) : toB (byts s) = s := rfl
theorem toB_of {s : ByteArray} {l : List UInt8} (h : byts s = l) : s = toB l := by rw [← h, toB_byts]
theorem byts_app (a b : ByteArray) : byts (a ++ b) = byts a ++ byts b := by simp [byts]
theorem byts_ext (s : ByteArray) (i j : Nat) : byts (s.extract i j) = ((byts s).take j).drop i := by
  simp [byts, List.extract_eq_take_drop, List.drop_take]
theorem byts_ext1 {s : ByteArray} {i : Nat} {b : UInt8} (h : s[i]? = some b) : byts (s.extract i (i + 1)) = [b] := by
  have hb := byts_get.1 h
  rw [byts_ext, List.take_add_one, hb]
  have hl : i < (byts s).length := (List.getElem?_eq_some_iff.1 hb).1
  rw [List.drop_append_of_le_length (by simp; omega)]
  simp

def escL (l : List UInt8) : List UInt8 := l.flatMap fun b => if b = 0 then [0, 255] else [b]
theorem escL_succ {l : List UInt8} {i : Nat} {b : UInt8} (h : l[i]? = some b) : escL (l.take (i + 1)) = escL (l.take i) ++ (if b = 0 then [0, 255] else [b]) := by
  rw [escL, List.take_add_one, h, List.flatMap_append]
  simp [escL]
theorem escL_len (l : List UInt8) : (escL l).length ≤ 2 * l.length := by
  induction l with
  | nil => simp [escL]
  | cons b r ih =>
    rw [escL, List.flatMap_cons, List.length_append]
    have : (if b = 0 then [(0 : UInt8), 255] else [b]).length ≤ 2 := by split <;> simp
    have h2 : (escL r).length = (r.flatMap fun b => if b = 0 then [(0 : UInt8), 255] else [b]).length := rfl
    simp only [List.length_cons]
    omega
def flipN (n : Int) : Int := IntKind.u64.wrap ((BitVec.ofInt IntKind.u64.bits (IntKind.u64.wrap n) ^^^ BitVec.ofInt IntKind.u64.bits 9223372036854775808).toNat : Int)
theorem flipN_0 (n : Int) : 0 ≤ flipN n := by
  rw [flipN]; simp [IntKind.wrap, IntKind.bits, IntKind.signed]; omega
def keyV (v : Val) : List UInt8 :=
  if v.k = 0 then [1] else if v.k = 1 then 2 :: bytesN (flipN v.n) else if v.k = 2 then 3 :: (escL (byts v.s) ++ [0, 1]) else []

theorem key_c (k n : Int) (s : ByteArray) (hs : s.size ≤ 1048577) : PCall Try.prog 96 [.sl [[.int .i64 k, .int .i64 n, .str s]]] fun r => r = [.str (toB (keyV (clean ⟨k, n, s⟩)))] := by
  have hb : ∀ {n m : Int}, IntKind.u64.wrap ((BitVec.ofInt IntKind.u64.bits n ^^^ BitVec.ofInt IntKind.u64.bits 9223372036854775808).toNat : Int) = m → PCall Try.prog 152 [.int .u64 m, .int .i64 8] fun r => r = [.str (strOf (upB m (-1)))] := fun {n m} h => bytes_c m (by rw [← h]; simp [IntKind.wrap, IntKind.bits, IntKind.signed]; omega)
  refine PCall.x (nt := 61) (res := [.tmp 2]) mixed tt_ok [] Try.func96 rfl rfl rfl c96 (Nat.le_of_ble_eq_true rfl) ?_
  intro cp cc lp Q' hcp hcc hlp hQ
  repeat' (first
    | (with_reducible refine Nm.mk ?_; intro z hz)
    | (with_reducible refine IfB.mk ?_ ?_ <;> (intro h; cases h))
    | (with_reducible refine Asm.mk ?_ ?_; focus (first | kernel_rfl | decide))
    | (with_reducible refine Asm.mk2 ?_ ?_)
    | ((fail_if_success (with_reducible refine hQ _ ?_)); (fail_if_success (with_reducible refine Side.mk ?_)); (fail_if_success (with_reducible refine isCP hcp ?_)); (fail_if_success (with_reducible refine isCC hcc ?_)); (fail_if_success (with_reducible refine isLP hlp ?_)); (fail_if_success (with_reducible refine Ix.mk ?_)); (fail_if_success (with_reducible refine SIx.mk ?_)); (fail_if_success (with_reducible refine SEx.mk ?_)); (fail_if_success (with_reducible refine EIx.mk ?_)); (fail_if_success (with_reducible refine RIx.mk ?_)); (fail_if_success (with_reducible show False)); (fail_if_success (with_reducible refine hR ?_ _ ?_ ?_ ?_ ?_ ?_)); (fail_if_success (with_reducible refine hR2 ?_ _ ?_ ?_ ?_ ?_ ?_)); cbv))
  have hz1 : z = 1 := by rw [← hz]; rfl
  clear hz
  subst hz1
  refine loopT (ι := Int × ByteArray) mixed tt_ok hcp hcc hlp [7, 8] (fun p => [(3, .p (.str p.2)), (9, .p (.int .i64 p.1))]) (fun _ => []) (fun p => (0 ≤ p.1 ∧ p.1 ≤ 1) ∧ byts p.2 = if p.1 = 0 then [] else keyV (clean ⟨k, n, s⟩)) (fun p => (1 - p.1).toNat) (0, ⟨#[]⟩) 0 (fun _ => rfl) ⟨⟨by omega, by omega⟩, rfl⟩ ⟨rfl, rfl, trivial⟩ rfl ?_
  rintro R ⟨i, q⟩ ⟨⟨hi0, hi1⟩, hq⟩ hR
  replace hi0 : 0 ≤ i := hi0
  replace hi1 : i ≤ 1 := hi1
  replace hq : byts q = if i = 0 then [] else keyV (clean ⟨k, n, s⟩) := hq
  have hql : decide (i < 1) = true → byts q = [] := by
    simp only [decide_eq_true_eq]; intro h; rw [hq, if_pos (by omega)]
  have hqs : decide (i < 1) = true → q.size = 0 := fun h => by rw [← byts_len, hql h]; rfl
  have hget : decide (i < 1) = true → [[PV.int .i64 k, .int .i64 n, .str s]][i.toNat]? = some [PV.int .i64 k, .int .i64 n, .str s] := by
    simp only [decide_eq_true_eq]; intro h; rw [show i = 0 by omega]; rfl
  have hst : decide (i < 1) = true → IntKind.i64.wrap (i + 1) = 1 := by
    simp only [decide_eq_true_eq]; intro h; rw [show i = 0 by omega]; decide
  have hfin : ∀ {q2 : ByteArray} {z A}, decide (i < 1) = true → byts q2 = keyV (clean ⟨k, n, s⟩) → IntKind.i64.wrap (i + 1) = z → subL A.T [(3, .p (.str q2)), (9, .p (.int .i64 z))] → subP A.T _ _ → takeX A.H 0 = [] → R A := fun {q2 z A} h h2 h3 h4 h5 h6 => by
    rw [hst h] at h3
    subst h3
    refine hR (1, q2) A ⟨⟨by show (0 : Int) ≤ 1; decide, by show (1 : Int) ≤ 1; decide⟩, h2⟩ ?_ h4 h5 h6
    simp only [decide_eq_true_eq] at h
    show (1 - 1 : Int).toNat < (1 - i).toNat
    omega
  have hsv : ∀ {v : Val}, clean ⟨k, n, s⟩ = v → v.s.size ≤ 1048577 := by
    rintro v rfl
    simp only [clean]
    split
    · exact Nat.zero_le _
    · split
      · exact hs
      · exact Nat.zero_le _
  have hs1 : ∀ {b : UInt8}, decide (i < 1) = true → ¬ maxI < ((q.size + (⟨#[b]⟩ : ByteArray).size : Nat) : Int) := by
    intro b h; rw [hqs h]; show ¬ (9223372036854775807 : Int) < ((0 + 1 : Nat) : Int); decide
  have hs2 : ∀ {m : Int} {z : ByteArray}, strOf (upB m (-1)) = z → ¬ maxI < (((⟨#[2]⟩ : ByteArray).size + z.size : Nat) : Int) := by
    intro m z h; rw [← h, ← byts_len (strOf _), upB_str]; show ¬ (9223372036854775807 : Int) < ((1 + 8 : Nat) : Int); decide
  have hs3 : ∀ {m : Int} {z z' : ByteArray}, decide (i < 1) = true → strOf (upB m (-1)) = z → ⟨#[2]⟩ ++ z = z' → ¬ maxI < ((q.size + z'.size : Nat) : Int) := by
    rintro m z z' h rfl rfl; rw [hqs h, ← byts_len (_ ++ _), byts_app, upB_str]; show ¬ (9223372036854775807 : Int) < ((0 + (1 + 8) : Nat) : Int); decide
  repeat' (first
    | (with_reducible refine Nm.mk ?_; intro z hz)
    | (with_reducible refine IfB.mk ?_ ?_ <;> (intro h; cases h))
    | (with_reducible refine Asm.mk ?_ ?_; focus (first | exact hs1 (by assumption) | exact hs2 (by assumption) | exact hs3 (by assumption) (by assumption) (by assumption) | (show (_ : Bool) = true; kernel_rfl)))
    | (with_reducible refine isCP hcp ?_; first | (refine vP hcp (rclean_c _ _ _) ?_; intro v hv) | (refine sP hcp (hb (by assumption)) ?_; intro z hz))
    | (with_reducible refine isCC hcc ?_; first | (refine vA hcc (rclean_c _ _ _) rfl ?_; intro v hv) | (refine sA hcc (hb (by assumption)) rfl ?_; intro z hz))
    | (with_reducible refine Ix.mk ⟨[.int .i64 k, .int .i64 n, .str s], hi0, hget (by assumption), rfl, by decide, ?_⟩)
    | (with_reducible refine Asm.mk2 ?_ ?_)
    | ((fail_if_success (with_reducible refine hQ _ ?_)); (fail_if_success (with_reducible refine Side.mk ?_)); (fail_if_success (with_reducible refine isCP hcp ?_)); (fail_if_success (with_reducible refine isCC hcc ?_)); (fail_if_success (with_reducible refine isLP hlp ?_)); (fail_if_success (with_reducible refine Ix.mk ?_)); (fail_if_success (with_reducible refine SIx.mk ?_)); (fail_if_success (with_reducible refine SEx.mk ?_)); (fail_if_success (with_reducible refine EIx.mk ?_)); (fail_if_success (with_reducible refine RIx.mk ?_)); (fail_if_success (with_reducible show False)); (fail_if_success (with_reducible refine hR ?_ _ ?_ ?_ ?_ ?_ ?_)); (fail_if_success (with_reducible refine hR2 ?_ _ ?_ ?_ ?_ ?_ ?_)); cbv))
  · rename_i z1 h1
    refine hfin (by assumption) ?_ hz ⟨rfl, rfl, trivial⟩ ⟨rfl, rfl, trivial⟩ rfl
    have h0 : v.k = 0 := by simpa using (show decide (v.k = 0) = true by assumption)
    rw [← h1, byts_app, hql (by assumption), hv, keyV, if_pos h0]; rfl
  · rename_i zu hu zx hx zb hb zc hc zd hd
    refine hfin (by assumption) ?_ hz ⟨rfl, rfl, trivial⟩ ⟨rfl, rfl, trivial⟩ rfl
    have h1 : v.k = 1 := by simpa using (show decide (v.k = 1) = true by assumption)
    rw [← hd, ← hc, ← hb, byts_app, byts_app, upB_str, hql (by assumption), hv, keyV, h1, if_neg (by decide), if_pos rfl, ← hx, ← hu]; rfl
  · have h0 : decide (i < 1) = true := by assumption
    have hq3 : byts z = [3] := by rw [← hz, byts_app, hql h0]; rfl
    have hvs := hsv hv
    have hk2 : v.k = 2 := by simpa using (show decide (v.k = 2) = true by assumption)
    generalize z = q3 at *
    refine loopT (ι := Int × ByteArray) mixed tt_ok hcp hcc hlp [5, 7, 8, 9] (fun p => [(3, .p (.str p.2)), (6, .p (.int .i64 p.1))]) (fun _ => [.cells [.p (.int .i64 v.k), .p (.int .i64 v.n), .p (.str v.s)]]) (fun p => (0 ≤ p.1 ∧ p.1.toNat ≤ v.s.size) ∧ byts p.2 = 3 :: escL ((byts v.s).take p.1.toNat)) (fun p => v.s.size - p.1.toNat) (0, q3) 1 (fun _ => rfl) ⟨by simp, hq3⟩ ⟨rfl, rfl, trivial⟩ rfl ?_
    rintro R2 ⟨j, q4⟩ ⟨⟨hj0, hj1⟩, hq4⟩ hR2
    replace hj0 : 0 ≤ j := hj0
    replace hj1 : j.toNat ≤ v.s.size := hj1
    replace hq4 : byts q4 = 3 :: escL ((byts v.s).take j.toNat) := hq4
    have hje := at_cases hj0 hj1
    have hq4s : q4.size ≤ 1 + 2 * 1048577 := by
      rw [← byts_len, hq4, List.length_cons]
      have := escL_len ((byts v.s).take j.toNat)
      have : ((byts v.s).take j.toNat).length ≤ v.s.size := by rw [List.length_take, byts_len]; omega
      omega
    have hx0 : ∀ {zs z : Int}, (v.s.size : Int) = zs → decide (j < zs) = true → IntKind.i64.wrap (j + 1) = z → z = j + 1 ∧ (0 ≤ j ∧ j ≤ z ∧ z ≤ (v.s.size : Int)) := by
      intro zs z h1 h2 h3
      have := (hje zs h1).1 h2
      rw [wrap_in (by omega)] at h3
      omega
    have hx1 : ∀ {zs z : Int} {y : ByteArray}, (v.s.size : Int) = zs → decide (j < zs) = true → IntKind.i64.wrap (j + 1) = z → v.s.extract ((some j).getD 0).toNat ((some z).getD (v.s.size : Int)).toNat = y → ∃ b, v.s[j.toNat]? = some b ∧ byts y = [b] := by
      intro zs z y h1 h2 h3 h4
      have hl := (hje zs h1).1 h2
      obtain ⟨e, _⟩ := hx0 h1 h2 h3
      obtain ⟨b, hb⟩ := byts_at hl
      refine ⟨b, hb, ?_⟩
      rw [← h4, e]
      show byts (v.s.extract j.toNat (j + 1).toNat) = [b]
      rw [show (j + 1).toNat = j.toNat + 1 by omega, byts_ext1 hb]
    have hb1 : ∀ {zs z : Int} {y : ByteArray}, (v.s.size : Int) = zs → decide (j < zs) = true → IntKind.i64.wrap (j + 1) = z → v.s.extract ((some j).getD 0).toNat ((some z).getD (v.s.size : Int)).toNat = y → ¬ maxI < ((q4.size + y.size : Nat) : Int) := by
      intro zs z y h1 h2 h3 h4
      obtain ⟨b, _, e⟩ := hx1 h1 h2 h3 h4
      have : y.size = 1 := by rw [← byts_len, e]; rfl
      show ¬ (9223372036854775807 : Int) < ((q4.size + y.size : Nat) : Int)
      omega
    have hb2 : ∀ {zs z : Int} {y x : ByteArray}, (v.s.size : Int) = zs → decide (j < zs) = true → IntKind.i64.wrap (j + 1) = z → v.s.extract ((some j).getD 0).toNat ((some z).getD (v.s.size : Int)).toNat = y → q4 ++ y = x → ¬ maxI < ((x.size + (⟨#[255]⟩ : ByteArray).size : Nat) : Int) := by
      intro zs z y x h1 h2 h3 h4 h5
      obtain ⟨b, _, e⟩ := hx1 h1 h2 h3 h4
      have : x.size = q4.size + 1 := by rw [← h5, ← byts_len, byts_app, List.length_append, e, byts_len]; rfl
      show ¬ (9223372036854775807 : Int) < ((x.size + 1 : Nat) : Int)
      omega
    have hb3 : ¬ maxI < ((q4.size + (⟨#[0, 1]⟩ : ByteArray).size : Nat) : Int) := by
      show ¬ (9223372036854775807 : Int) < ((q4.size + 2 : Nat) : Int)
      omega
    have hgo : ∀ {q5 : ByteArray} {zs z : Int} {b : UInt8} {A}, (v.s.size : Int) = zs → decide (j < zs) = true → v.s[j.toNat]? = some b → byts q5 = byts q4 ++ (if b = 0 then [0, 255] else [b]) → IntKind.i64.wrap (j + 1) = z → subL A.T [(3, .p (.str q5)), (6, .p (.int .i64 z))] → subP A.T _ _ → takeX A.H 1 = _ → R2 A := fun {q5 zs z b A} h1 h2 h3 h4 h5 h6 h7 h8 => by
      have hl := (hje zs h1).1 h2
      obtain ⟨e, _⟩ := hx0 h1 h2 h5
      subst e
      refine hR2 (j + 1, q5) A ⟨⟨by show 0 ≤ j + 1; omega, by show (j + 1).toNat ≤ v.s.size; omega⟩, ?_⟩ (by show v.s.size - (j + 1).toNat < v.s.size - j.toNat; omega) h6 h7 h8
      show byts q5 = 3 :: escL ((byts v.s).take (j + 1).toNat)
      rw [show (j + 1).toNat = j.toNat + 1 by omega, escL_succ (byts_get.1 h3), h4, hq4]; rfl
    repeat' (first
      | (with_reducible refine Nm.mk ?_; intro z hz)
      | (with_reducible refine IfB.mk ?_ ?_ <;> (intro h; cases h))
      | (with_reducible refine Asm.mk ?_ ?_; focus (first | exact hb3 | exact hb1 (by assumption) (by assumption) (by assumption) (by assumption) | exact hb2 (by assumption) (by assumption) (by assumption) (by assumption) (by assumption) | (simp only [Option.getD_some]; exact (hx0 (by assumption) (by assumption) (by assumption)).2) | (show (_ : Bool) = true; kernel_rfl)))
      | (with_reducible refine SIx.at_ hj0 ((hje _ (by assumption)).1 (by assumption)) ?_; intro b c hb hc)
      | (with_reducible refine Asm.mk2 ?_ ?_)
      | ((fail_if_success (with_reducible refine hQ _ ?_)); (fail_if_success (with_reducible refine Side.mk ?_)); (fail_if_success (with_reducible refine isCP hcp ?_)); (fail_if_success (with_reducible refine isCC hcc ?_)); (fail_if_success (with_reducible refine isLP hlp ?_)); (fail_if_success (with_reducible refine Ix.mk ?_)); (fail_if_success (with_reducible refine SIx.mk ?_)); (fail_if_success (with_reducible refine SEx.mk ?_)); (fail_if_success (with_reducible refine EIx.mk ?_)); (fail_if_success (with_reducible refine RIx.mk ?_)); (fail_if_success (with_reducible show False)); (fail_if_success (with_reducible refine hR ?_ _ ?_ ?_ ?_ ?_ ?_)); (fail_if_success (with_reducible refine hR2 ?_ _ ?_ ?_ ?_ ?_ ?_)); cbv))
    · rename_i h1 h2 ze he y hy x hx hc0 w hw
      obtain ⟨b', hb', e⟩ := hx1 h1 h2 he hy
      rw [hb] at hb'
      cases hb'
      have hb0 : b = 0 := by
        have : c = 0 := by simpa using hc0
        exact UInt8.toNat_inj.1 (by rw [this] at hc; simpa using hc)
      refine hgo h1 h2 hb ?_ hz ⟨rfl, rfl, trivial⟩ ⟨rfl, rfl, rfl, rfl, trivial⟩ rfl
      rw [← hw, ← hx, byts_app, byts_app, e, if_pos hb0, hb0, List.append_assoc]; rfl
    · rename_i h1 h2 ze he y hy x hx hc0
      obtain ⟨b', hb', e⟩ := hx1 h1 h2 he hy
      rw [hb] at hb'
      cases hb'
      have hb0 : ¬ b = 0 := by
        have : ¬ c = 0 := by simpa using hc0
        rintro rfl
        exact this (by rw [← hc]; rfl)
      refine hgo h1 h2 hb ?_ hz ⟨rfl, rfl, trivial⟩ ⟨rfl, rfl, rfl, rfl, trivial⟩ rfl
      rw [← hx, byts_app, e, if_neg hb0]
    · rename_i h1 h2 y hy
      have hl := (hje _ h1).2 h2
      refine hfin h0 ?_ hz ⟨rfl, rfl, trivial⟩ ⟨rfl, rfl, trivial⟩ rfl
      rw [← hy, byts_app, hq4, hl, List.take_of_length_le (by rw [byts_len]; exact Nat.le_refl _), hv, keyV, hk2, if_neg (by decide), if_neg (by decide), if_pos rfl]; rfl
  · refine hfin (by assumption) ?_ hz ⟨rfl, rfl, trivial⟩ ⟨rfl, rfl, trivial⟩ rfl
    have h0 : ¬ v.k = 0 := by simpa using (show decide (v.k = 0) = false by assumption)
    have h1 : ¬ v.k = 1 := by simpa using (show decide (v.k = 1) = false by assumption)
    have h2 : ¬ v.k = 2 := by simpa using (show decide (v.k = 2) = false by assumption)
    rw [hql (by assumption), hv, keyV, if_neg h0, if_neg h1, if_neg h2]
  · refine hQ _ ?_
    simp only [decide_eq_false_iff_not] at hz
    rw [toB_of hq, if_neg (by omega)]
end Go.Proofs.Ytnhmnfokbinplaa
